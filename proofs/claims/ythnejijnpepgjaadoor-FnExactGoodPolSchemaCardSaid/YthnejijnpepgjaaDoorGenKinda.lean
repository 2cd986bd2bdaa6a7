/- generated -/
import Derived.Test.YthnejijnpepgjaaDoorAb23
import Derived.Test.YthnejijnpepgjaaDoorProg
import Derived.KernelRfl
namespace Go.Ab
open Go.Proofs
set_option maxRecDepth 20000
abbrev I64 : Ty := .int .i64
abbrev U8 : Ty := .int .u8
abbrev TyboundsError : Ty := (.pair I64 (.pair I64 (.pair .bool U8)))
abbrev DboundsError : Type := (Int × (Int × (Bool × Int)))
abbrev TyerrorAddressString : Ty := (.pair .str (.int .u64))
abbrev DerrorAddressString : Type := ((List Int) × Int)
abbrev TyAtom : Ty := (.pair I64 (.pair I64 (.pair .str .str)))
abbrev DAtom : Type := (Int × (Int × ((List Int) × (List Int))))
abbrev TyValue : Ty := (.pair I64 (.pair TyAtom (.pair (.list TyAtom) (.list .str))))
abbrev DValue : Type := (Int × (DAtom × ((List DAtom) × (List (List Int)))))
abbrev TyAttrKind : Ty := (.pair .str (.pair .str .bool))
abbrev DAttrKind : Type := ((List Int) × ((List Int) × Bool))
abbrev TyThingType : Ty := (.pair .str (.pair (.list .str) (.list TyAttrKind)))
abbrev DThingType : Type := ((List Int) × ((List (List Int)) × (List DAttrKind)))
abbrev TyActionType : Ty := (.pair .str (.pair (.list .str) (.pair (.list .str) (.list TyAttrKind))))
abbrev DActionType : Type := ((List Int) × ((List (List Int)) × ((List (List Int)) × (List DAttrKind))))
abbrev TyPolSchema : Ty := (.pair (.list TyThingType) (.list TyActionType))
abbrev DPolSchema : Type := ((List DThingType) × (List DActionType))
abbrev TyHead : Ty := (.pair I64 (.pair TyAtom .str))
abbrev DHead : Type := (Int × (DAtom × (List Int)))
abbrev TyExpr : Ty := (.pair I64 (.pair .str (.pair TyAtom I64)))
abbrev DExpr : Type := (Int × ((List Int) × (DAtom × Int)))
abbrev TyPolicy : Ty := (.pair .str (.pair .bool (.pair TyHead (.pair TyHead (.pair TyHead (.list TyExpr))))))
abbrev DPolicy : Type := ((List Int) × (Bool × (DHead × (DHead × (DHead × (List DExpr))))))
/-! ## spec.l1Printed (102) -/
noncomputable def P_spec_l1Printed_0_2 : List Int → Option Bool
  | [] =>
      some true
  | e :: rest =>
      bif decide (e < 32) then
        some false
      else
        bif decide ((126 : Int) < e) then
          some false
        else
          P_spec_l1Printed_0_2 rest
noncomputable def P_spec_l1Printed (a0 : (List Int)) : Option Bool :=
  lenOk a0 (P_spec_l1Printed_0_2 a0)
noncomputable def c_spec_l1Printed : Ctr := ⟨102, [.str], [.bool], fun x => P_spec_l1Printed x.1⟩
def A_spec_l1Printed : List (List Nat × Ann) := [([0, 2], [.keep 0 0, .keep 0 3])]
def In_spec_l1Printed : List (List Nat × Nat) := []
noncomputable def cs_spec_l1Printed : List Ctr := []
noncomputable def F_spec_l1Printed (n : Nat) (a0 : (List Int)) : Option Bool := run Tryd.prog A_spec_l1Printed In_spec_l1Printed (conOf cs_spec_l1Printed) Tryd.f102 (Tryd.f102.body.getD .skip) (packT [.bool]) n (argsV [.str] (a0, ()))
noncomputable abbrev L_spec_l1Printed_0_2 (n : Nat) (x1 : (List Int)) (x2 : Int) : Option Bool := lam Tryd.prog A_spec_l1Printed In_spec_l1Printed (conOf cs_spec_l1Printed) Tryd.f102 (Tryd.f102.body.getD .skip) (packT [.bool]) n [0, 2] [.d .str x1, .d I64 x2]
theorem F_spec_l1Printed_eq (n : Nat) (a0 : (List Int)) : F_spec_l1Printed n a0 =
    L_spec_l1Printed_0_2 n a0 0 := by kernel_rfl
theorem L_spec_l1Printed_0_2_eq (n : Nat) (x1 : (List Int)) (x2 : Int) : L_spec_l1Printed_0_2 (n + 1) x1 x2 =
    bif decide (x2 < (x1.length : Int)) then
      bif inB x2 x1.length then
        bif decide (rd x1 x2 0 < 32) then
          some false
        else
          bif inB x2 x1.length then
            bif decide ((126 : Int) < rd x1 x2 0) then
              some false
            else
              L_spec_l1Printed_0_2 n x1 (IntKind.wrap .i64 (x2 + 1))
          else none
      else none
    else
      some true := by kernel_rfl
theorem S_spec_l1Printed_0_2 {x1 : (List Int)} (hl : x1.length ≤ maxLen) : ∀ (rest : List Int) (k : Nat) (r : Bool), rest = x1.drop k → P_spec_l1Printed_0_2 rest = some r → Ev (fun n => L_spec_l1Printed_0_2 n x1 (k : Int)) r := by
  intro rest
  induction rest with
  | nil =>
    intro k r hr h
    have hk := drop_nil hr
    rw [P_spec_l1Printed_0_2] at h
    refine Ev.step ?_ (fun n => L_spec_l1Printed_0_2_eq n x1 (k : Int))
    rw [show decide ((k : Int) < (x1.length : Int)) = false from decide_eq_false (by omega)]
    exact Ev.neg rfl (Ev.ofSome h)
  | cons e rest ih =>
    intro k r hr h
    obtain ⟨hk, hx, hr2⟩ := drop_cons (d := 0) hr
    have hw := wrap_succ hl hk
    have ih2 : ∀ (r : Bool), P_spec_l1Printed_0_2 rest = some r → Ev (fun n => L_spec_l1Printed_0_2 n x1 (IntKind.wrap .i64 ((k : Int) + 1))) r := by
      intro r h; rw [hw]; exact ih (k + 1) r hr2 h
    rw [P_spec_l1Printed_0_2] at h
    refine Ev.step ?_ (fun n => L_spec_l1Printed_0_2_eq n x1 (k : Int))
    rw [show decide ((k : Int) < (x1.length : Int)) = true from decide_eq_true (by omega), inB_nat2 hk, hx]
    exact Ev.pos rfl (Ev.pos rfl (Ev.ofBif h (fun h => (Ev.ofSome h)) (fun h => (Ev.pos rfl (Ev.ofBif h (fun h => (Ev.ofSome h)) (fun h => (ih2  _ h)))))))
theorem S_spec_l1Printed (a0 : (List Int)) {r : Bool} (h : P_spec_l1Printed a0 = some r) : Ev (fun n => F_spec_l1Printed n a0) r := by
  rw [P_spec_l1Printed] at h
  refine Ev.of_eq ?_ (fun n => F_spec_l1Printed_eq n a0)
  exact (Ev.ofLen h fun hl h => S_spec_l1Printed_0_2 hl _ (0 : Nat) _ rfl h)
theorem hcs_spec_l1Printed : ∀ x ∈ cs_spec_l1Printed, CtrOk Tryd.prog x := conOf_nil
theorem ok_spec_l1Printed : CtrOk Tryd.prog (c_spec_l1Printed) := by
  refine ctr_of_run (c := c_spec_l1Printed) (by kernel_rfl) (by kernel_rfl : Tryd.prog.funcs[102]? = some Tryd.f102) (code := Tryd.f102.body.getD .skip) (by kernel_rfl) (by kernel_rfl) (by kernel_rfl) (A := A_spec_l1Printed) (I := In_spec_l1Printed) (hcs_spec_l1Printed) ?_
  rintro ⟨a0, u⟩ y hy
  exact (S_spec_l1Printed a0 hy).get

/-! ## spec.l1Digit (67) -/
def T_spec_l1Digit (a0 : Int) : Bool :=
  bif decide ((48 : Int) ≤ a0) then
    decide (a0 ≤ 57)
  else
    false
noncomputable def c_spec_l1Digit : Ctr := ⟨67, [U8], [.bool], fun x => some (T_spec_l1Digit x.1)⟩
def A_spec_l1Digit : List (List Nat × Ann) := []
def In_spec_l1Digit : List (List Nat × Nat) := []
noncomputable def cs_spec_l1Digit : List Ctr := []
noncomputable def F_spec_l1Digit (n : Nat) (a0 : Int) : Option Bool := run Tryd.prog A_spec_l1Digit In_spec_l1Digit (conOf cs_spec_l1Digit) Tryd.f67 (Tryd.f67.body.getD .skip) (packT [.bool]) n (argsV [U8] (a0, ()))
theorem F_spec_l1Digit_eq (n : Nat) (a0 : Int) : F_spec_l1Digit n a0 =
    bif decide ((48 : Int) ≤ a0) then
      some (decide (a0 ≤ 57))
    else
      some false := by kernel_rfl
theorem S_spec_l1Digit (n : Nat) (a0 : Int) : F_spec_l1Digit n a0 = some (T_spec_l1Digit a0) := (F_spec_l1Digit_eq n a0).trans (cond_some rfl rfl)
theorem hcs_spec_l1Digit : ∀ x ∈ cs_spec_l1Digit, CtrOk Tryd.prog x := conOf_nil
theorem ok_spec_l1Digit : CtrOk Tryd.prog (c_spec_l1Digit) := by
  refine ctr_of_run (c := c_spec_l1Digit) (by kernel_rfl) (by kernel_rfl : Tryd.prog.funcs[67]? = some Tryd.f67) (code := Tryd.f67.body.getD .skip) (by kernel_rfl) (by kernel_rfl) (by kernel_rfl) (A := A_spec_l1Digit) (I := In_spec_l1Digit) (hcs_spec_l1Digit) ?_
  rintro ⟨a0, u⟩ y hy
  exact ⟨0, (S_spec_l1Digit 0 a0).trans hy⟩

/-! ## spec.l1Letter (68) -/
def T_spec_l1Letter (a0 : Int) : Bool :=
  bif decide ((97 : Int) ≤ a0) then
    bif decide (a0 ≤ 122) then
      true
    else
      bif decide ((65 : Int) ≤ a0) then
        decide (a0 ≤ 90)
      else
        false
  else
    bif decide ((65 : Int) ≤ a0) then
      decide (a0 ≤ 90)
    else
      false
noncomputable def c_spec_l1Letter : Ctr := ⟨68, [U8], [.bool], fun x => some (T_spec_l1Letter x.1)⟩
def A_spec_l1Letter : List (List Nat × Ann) := []
def In_spec_l1Letter : List (List Nat × Nat) := []
noncomputable def cs_spec_l1Letter : List Ctr := []
noncomputable def F_spec_l1Letter (n : Nat) (a0 : Int) : Option Bool := run Tryd.prog A_spec_l1Letter In_spec_l1Letter (conOf cs_spec_l1Letter) Tryd.f68 (Tryd.f68.body.getD .skip) (packT [.bool]) n (argsV [U8] (a0, ()))
theorem F_spec_l1Letter_eq (n : Nat) (a0 : Int) : F_spec_l1Letter n a0 =
    bif decide ((97 : Int) ≤ a0) then
      bif decide (a0 ≤ 122) then
        some true
      else
        bif decide ((65 : Int) ≤ a0) then
          some (decide (a0 ≤ 90))
        else
          some false
    else
      bif decide ((65 : Int) ≤ a0) then
        some (decide (a0 ≤ 90))
      else
        some false := by kernel_rfl
theorem S_spec_l1Letter (n : Nat) (a0 : Int) : F_spec_l1Letter n a0 = some (T_spec_l1Letter a0) := (F_spec_l1Letter_eq n a0).trans (cond_some (cond_some rfl (cond_some rfl rfl)) (cond_some rfl rfl))
theorem hcs_spec_l1Letter : ∀ x ∈ cs_spec_l1Letter, CtrOk Tryd.prog x := conOf_nil
theorem ok_spec_l1Letter : CtrOk Tryd.prog (c_spec_l1Letter) := by
  refine ctr_of_run (c := c_spec_l1Letter) (by kernel_rfl) (by kernel_rfl : Tryd.prog.funcs[68]? = some Tryd.f68) (code := Tryd.f68.body.getD .skip) (by kernel_rfl) (by kernel_rfl) (by kernel_rfl) (A := A_spec_l1Letter) (I := In_spec_l1Letter) (hcs_spec_l1Letter) ?_
  rintro ⟨a0, u⟩ y hy
  exact ⟨0, (S_spec_l1Letter 0 a0).trans hy⟩

/-! ## spec.GoodName (28) -/
noncomputable def P_spec_GoodName_0_4 : List Int → Option Bool
  | [] =>
      some true
  | e :: rest =>
      bif !(T_spec_l1Letter (e)) then
        bif !(T_spec_l1Digit (e)) then
          bif !decide (e = 95) then
            some false
          else
            P_spec_GoodName_0_4 rest
        else
          P_spec_GoodName_0_4 rest
      else
        P_spec_GoodName_0_4 rest
noncomputable def P_spec_GoodName (a0 : (List Int)) : Option Bool :=
  bif decide ((a0.length : Int) < 1) then
    some false
  else
    bif decide ((30 : Int) < (a0.length : Int)) then
      some false
    else
      bif inB 0 a0.length then
        bif T_spec_l1Digit (rd a0 0 0) then
          some false
        else
          lenOk a0 (P_spec_GoodName_0_4 a0)
      else none
noncomputable def c_spec_GoodName : Ctr := ⟨28, [.str], [.bool], fun x => P_spec_GoodName x.1⟩
def A_spec_GoodName : List (List Nat × Ann) := [([0, 4], [.keep 0 0, .keep 0 3])]
def In_spec_GoodName : List (List Nat × Nat) := []
noncomputable def cs_spec_GoodName : List Ctr := [c_spec_l1Digit, c_spec_l1Letter]
noncomputable def F_spec_GoodName (n : Nat) (a0 : (List Int)) : Option Bool := run Tryd.prog A_spec_GoodName In_spec_GoodName (conOf cs_spec_GoodName) Tryd.f28 (Tryd.f28.body.getD .skip) (packT [.bool]) n (argsV [.str] (a0, ()))
noncomputable abbrev L_spec_GoodName_0_4 (n : Nat) (x1 : (List Int)) (x2 : Int) : Option Bool := lam Tryd.prog A_spec_GoodName In_spec_GoodName (conOf cs_spec_GoodName) Tryd.f28 (Tryd.f28.body.getD .skip) (packT [.bool]) n [0, 4] [.d .str x1, .d I64 x2]
theorem F_spec_GoodName_eq (n : Nat) (a0 : (List Int)) : F_spec_GoodName n a0 =
    bif decide ((a0.length : Int) < 1) then
      some false
    else
      bif decide ((30 : Int) < (a0.length : Int)) then
        some false
      else
        bif inB 0 a0.length then
          bif T_spec_l1Digit (rd a0 0 0) then
            some false
          else
            L_spec_GoodName_0_4 n a0 0
        else none := by kernel_rfl
theorem L_spec_GoodName_0_4_eq (n : Nat) (x1 : (List Int)) (x2 : Int) : L_spec_GoodName_0_4 (n + 1) x1 x2 =
    bif decide (x2 < (x1.length : Int)) then
      bif inB x2 x1.length then
        bif !(T_spec_l1Letter (rd x1 x2 0)) then
          bif inB x2 x1.length then
            bif !(T_spec_l1Digit (rd x1 x2 0)) then
              bif inB x2 x1.length then
                bif !decide (rd x1 x2 0 = 95) then
                  some false
                else
                  L_spec_GoodName_0_4 n x1 (IntKind.wrap .i64 (x2 + 1))
              else none
            else
              L_spec_GoodName_0_4 n x1 (IntKind.wrap .i64 (x2 + 1))
          else none
        else
          L_spec_GoodName_0_4 n x1 (IntKind.wrap .i64 (x2 + 1))
      else none
    else
      some true := by kernel_rfl
theorem S_spec_GoodName_0_4 {x1 : (List Int)} (hl : x1.length ≤ maxLen) : ∀ (rest : List Int) (k : Nat) (r : Bool), rest = x1.drop k → P_spec_GoodName_0_4 rest = some r → Ev (fun n => L_spec_GoodName_0_4 n x1 (k : Int)) r := by
  intro rest
  induction rest with
  | nil =>
    intro k r hr h
    have hk := drop_nil hr
    rw [P_spec_GoodName_0_4] at h
    refine Ev.step ?_ (fun n => L_spec_GoodName_0_4_eq n x1 (k : Int))
    rw [show decide ((k : Int) < (x1.length : Int)) = false from decide_eq_false (by omega)]
    exact Ev.neg rfl (Ev.ofSome h)
  | cons e rest ih =>
    intro k r hr h
    obtain ⟨hk, hx, hr2⟩ := drop_cons (d := 0) hr
    have hw := wrap_succ hl hk
    have ih2 : ∀ (r : Bool), P_spec_GoodName_0_4 rest = some r → Ev (fun n => L_spec_GoodName_0_4 n x1 (IntKind.wrap .i64 ((k : Int) + 1))) r := by
      intro r h; rw [hw]; exact ih (k + 1) r hr2 h
    rw [P_spec_GoodName_0_4] at h
    refine Ev.step ?_ (fun n => L_spec_GoodName_0_4_eq n x1 (k : Int))
    rw [show decide ((k : Int) < (x1.length : Int)) = true from decide_eq_true (by omega), inB_nat2 hk, hx]
    exact Ev.pos rfl (Ev.pos rfl (Ev.ofBif h (fun h => (Ev.pos rfl (Ev.ofBif h (fun h => (Ev.pos rfl (Ev.ofBif h (fun h => (Ev.ofSome h)) (fun h => (ih2  _ h))))) (fun h => (ih2  _ h))))) (fun h => (ih2  _ h))))
theorem S_spec_GoodName (a0 : (List Int)) {r : Bool} (h : P_spec_GoodName a0 = some r) : Ev (fun n => F_spec_GoodName n a0) r := by
  rw [P_spec_GoodName] at h
  refine Ev.of_eq ?_ (fun n => F_spec_GoodName_eq n a0)
  exact (Ev.ofBif h (fun h => (Ev.ofSome h)) (fun h => (Ev.ofBif h (fun h => (Ev.ofSome h)) (fun h => (Ev.ofBif h (fun h => (Ev.ofBif h (fun h => (Ev.ofSome h)) (fun h => (Ev.ofLen h fun hl h => S_spec_GoodName_0_4 hl _ (0 : Nat) _ rfl h)))) (fun h => (Ev.ofNone h)))))))
theorem hcs_spec_GoodName : ∀ x ∈ cs_spec_GoodName, CtrOk Tryd.prog x := (conOf_cons ok_spec_l1Digit (conOf_cons ok_spec_l1Letter conOf_nil))
theorem ok_spec_GoodName : CtrOk Tryd.prog (c_spec_GoodName) := by
  refine ctr_of_run (c := c_spec_GoodName) (by kernel_rfl) (by kernel_rfl : Tryd.prog.funcs[28]? = some Tryd.f28) (code := Tryd.f28.body.getD .skip) (by kernel_rfl) (by kernel_rfl) (by kernel_rfl) (A := A_spec_GoodName) (I := In_spec_GoodName) (hcs_spec_GoodName) ?_
  rintro ⟨a0, u⟩ y hy
  exact (S_spec_GoodName a0 hy).get

/-! ## spec.l1Pow2 (103) -/
noncomputable def P_spec_l1Pow2_0_3 (x1 : Int) : Nat → Int → Int → Option Int
  | 0, _, _ => none
  | m + 1, x2, x3 =>
      bif decide (x3 < x1) then
        P_spec_l1Pow2_0_3 x1 m (IntKind.wrap .i64 (x2 * 2)) (IntKind.wrap .i64 (x3 + 1))
      else
        some x2
noncomputable def P_spec_l1Pow2 (m : Nat) (a0 : Int) : Option Int :=
  P_spec_l1Pow2_0_3 a0 m 1 0
noncomputable def E_spec_l1Pow2 (a0 : Int) : Option Int := evOpt fun m => P_spec_l1Pow2 m a0
noncomputable def c_spec_l1Pow2 : Ctr := ⟨103, [I64], [I64], fun x => E_spec_l1Pow2 x.1⟩
def A_spec_l1Pow2 : List (List Nat × Ann) := [([0, 3], [.keep 0 0, .keep 0 3, .keep 0 4])]
def In_spec_l1Pow2 : List (List Nat × Nat) := []
noncomputable def cs_spec_l1Pow2 : List Ctr := []
noncomputable def F_spec_l1Pow2 (n : Nat) (a0 : Int) : Option Int := run Tryd.prog A_spec_l1Pow2 In_spec_l1Pow2 (conOf cs_spec_l1Pow2) Tryd.f103 (Tryd.f103.body.getD .skip) (packT [I64]) n (argsV [I64] (a0, ()))
noncomputable abbrev L_spec_l1Pow2_0_3 (n : Nat) (x1 : Int) (x2 : Int) (x3 : Int) : Option Int := lam Tryd.prog A_spec_l1Pow2 In_spec_l1Pow2 (conOf cs_spec_l1Pow2) Tryd.f103 (Tryd.f103.body.getD .skip) (packT [I64]) n [0, 3] [.d I64 x1, .d I64 x2, .d I64 x3]
theorem F_spec_l1Pow2_eq (n : Nat) (a0 : Int) : F_spec_l1Pow2 n a0 =
    L_spec_l1Pow2_0_3 n a0 1 0 := by kernel_rfl
theorem L_spec_l1Pow2_0_3_eq (n : Nat) (x1 : Int) (x2 : Int) (x3 : Int) : L_spec_l1Pow2_0_3 (n + 1) x1 x2 x3 =
    bif decide (x3 < x1) then
      L_spec_l1Pow2_0_3 n x1 (IntKind.wrap .i64 (x2 * 2)) (IntKind.wrap .i64 (x3 + 1))
    else
      some x2 := by kernel_rfl
theorem S_spec_l1Pow2_0_3 {x1 : Int} : ∀ (m : Nat) (x2 : Int) (x3 : Int) (r : Int), P_spec_l1Pow2_0_3 x1 m x2 x3 = some r → Ev (fun n => L_spec_l1Pow2_0_3 n x1 x2 x3) r := by
  intro m
  induction m with
  | zero => intro x2 x3 r h; rw [P_spec_l1Pow2_0_3] at h; exact Ev.ofNone h
  | succ m ih2 =>
    intro x2 x3 r h
    rw [P_spec_l1Pow2_0_3] at h
    refine Ev.step ?_ (fun n => L_spec_l1Pow2_0_3_eq n x1 x2 x3)
    exact (Ev.ofBif h (fun h => (ih2 _ _ _ h)) (fun h => (Ev.ofSome h)))
theorem S_spec_l1Pow2 {m : Nat} (a0 : Int) {r : Int} (h : P_spec_l1Pow2 m a0 = some r) : Ev (fun n => F_spec_l1Pow2 n a0) r := by
  rw [P_spec_l1Pow2] at h
  refine Ev.of_eq ?_ (fun n => F_spec_l1Pow2_eq n a0)
  exact (S_spec_l1Pow2_0_3 _ _ _ _ h)
theorem hcs_spec_l1Pow2 : ∀ x ∈ cs_spec_l1Pow2, CtrOk Tryd.prog x := conOf_nil
theorem ok_spec_l1Pow2 : CtrOk Tryd.prog (c_spec_l1Pow2) := by
  refine ctr_of_run (c := c_spec_l1Pow2) (by kernel_rfl) (by kernel_rfl : Tryd.prog.funcs[103]? = some Tryd.f103) (code := Tryd.f103.body.getD .skip) (by kernel_rfl) (by kernel_rfl) (by kernel_rfl) (A := A_spec_l1Pow2) (I := In_spec_l1Pow2) (hcs_spec_l1Pow2) ?_
  rintro ⟨a0, u⟩ y hy
  exact let ⟨_, h⟩ := (evOpt_get hy).get; (S_spec_l1Pow2 a0 h).get

/-! ## spec.l1Block (104) -/
noncomputable def P_spec_l1Block (a0 : DAtom) : Option (Int × Int) :=
  Option.bind (E_spec_l1Pow2 (IntKind.wrap .i64 (32 - (Int.tmod a0.2.1 64)))) fun (y1 : Int) =>
  some (IntKind.wrap .i64 (Int.tdiv a0.2.1 64), y1)
noncomputable def c_spec_l1Block : Ctr := ⟨104, [TyAtom], [I64, I64], fun x => P_spec_l1Block x.1⟩
def A_spec_l1Block : List (List Nat × Ann) := []
def In_spec_l1Block : List (List Nat × Nat) := []
noncomputable def cs_spec_l1Block : List Ctr := [c_spec_l1Pow2]
noncomputable def F_spec_l1Block (n : Nat) (a0 : DAtom) : Option (Int × Int) := run Tryd.prog A_spec_l1Block In_spec_l1Block (conOf cs_spec_l1Block) Tryd.f104 (Tryd.f104.body.getD .skip) (packT [I64, I64]) n (argsV [TyAtom] (a0, ()))
theorem F_spec_l1Block_eq (n : Nat) (a0 : DAtom) : F_spec_l1Block n a0 =
    Option.bind (E_spec_l1Pow2 (IntKind.wrap .i64 (32 - (Int.tmod a0.2.1 64)))) fun (y1 : Int) =>
    some (IntKind.wrap .i64 (Int.tdiv a0.2.1 64), y1) := by kernel_rfl
theorem S_spec_l1Block (a0 : DAtom) {r : (Int × Int)} (h : P_spec_l1Block a0 = some r) : Ev (fun n => F_spec_l1Block n a0) r := by
  rw [P_spec_l1Block] at h
  refine Ev.of_eq ?_ (fun n => F_spec_l1Block_eq n a0)
  exact (Ev.ofBind h fun y1 h => (Ev.ofSome h))
theorem hcs_spec_l1Block : ∀ x ∈ cs_spec_l1Block, CtrOk Tryd.prog x := (conOf_cons ok_spec_l1Pow2 conOf_nil)
theorem ok_spec_l1Block : CtrOk Tryd.prog (c_spec_l1Block) := by
  refine ctr_of_run (c := c_spec_l1Block) (by kernel_rfl) (by kernel_rfl : Tryd.prog.funcs[104]? = some Tryd.f104) (code := Tryd.f104.body.getD .skip) (by kernel_rfl) (by kernel_rfl) (by kernel_rfl) (A := A_spec_l1Block) (I := In_spec_l1Block) (hcs_spec_l1Block) ?_
  rintro ⟨a0, u⟩ y hy
  exact (S_spec_l1Block a0 hy).get

/-! ## spec.GoodAtom (64) -/
noncomputable def P_spec_GoodAtom_1_8 (x1 : Int) (x2 : Bool) (x3 : DAtom) : Option Bool :=
  bif x2 then
    some true
  else
    bif decide (x1 = 3) then
      bif decide (x3.2.1 = 0) then
        bif decide ((x3.2.2.1.length : Int) ≤ 200) then
          Option.bind (P_spec_l1Printed x3.2.2.1) fun (y1 : Bool) =>
          some y1
        else
          some false
      else
        some false
    else
      bif decide (x1 = 4) then
        bif decide (x3.2.1 = 0) then
          Option.bind (P_spec_GoodName x3.2.2.2) fun (y2 : Bool) =>
          bif y2 then
            bif decide ((1 : Int) ≤ (x3.2.2.1.length : Int)) then
              bif decide ((x3.2.2.1.length : Int) ≤ 200) then
                Option.bind (P_spec_l1Printed x3.2.2.1) fun (y3 : Bool) =>
                some y3
              else
                some false
            else
              some false
          else
            some false
        else
          some false
      else
        bif decide (x1 = 6) then
          bif decide (x3.2.1 < 0) then
            some false
          else
            Option.bind (E_spec_l1Pow2 32) fun (y4 : Int) =>
            bif decide (IntKind.wrap .i64 (y4 - 1) < IntKind.wrap .i64 (Int.tdiv x3.2.1 64)) then
              some false
            else
              bif decide ((32 : Int) < Int.tmod x3.2.1 64) then
                some false
              else
                Option.bind (P_spec_l1Block x3) fun (y5 : (Int × Int)) =>
                bif decide (y5.2 = 0) then none else
                some (decide (Int.tmod y5.1 y5.2 = 0))
        else
          bif decide (x1 = 7) then
            bif decide (((-100000000000) : Int) ≤ x3.2.1) then
              some (decide (x3.2.1 ≤ 100000000000))
            else
              some false
          else
            some false
noncomputable def P_spec_GoodAtom_1_3 (x1 : DAtom) : Option Bool :=
  bif decide (x1.1 = 1) then
    bif decide (x1.2.1 = 0) then
      some true
    else
      some (decide (x1.2.1 = 1))
  else
    bif decide (x1.1 = 2) then
      P_spec_GoodAtom_1_8 x1.1 (decide (x1.1 = 2)) x1
    else
      P_spec_GoodAtom_1_8 x1.1 (decide (x1.1 = 5)) x1
noncomputable def P_spec_GoodAtom (a0 : DAtom) : Option Bool :=
  bif !decide (a0.1 = 3) then
    bif !decide (a0.1 = 4) then
      bif !decide (a0.2.2.1 = ([] : List Int)) then
        some false
      else
        bif !decide (a0.1 = 4) then
          bif !decide (a0.2.2.2 = ([] : List Int)) then
            some false
          else
            P_spec_GoodAtom_1_3 a0
        else
          P_spec_GoodAtom_1_3 a0
    else
      bif !decide (a0.1 = 4) then
        bif !decide (a0.2.2.2 = ([] : List Int)) then
          some false
        else
          P_spec_GoodAtom_1_3 a0
      else
        P_spec_GoodAtom_1_3 a0
  else
    bif !decide (a0.1 = 4) then
      bif !decide (a0.2.2.2 = ([] : List Int)) then
        some false
      else
        P_spec_GoodAtom_1_3 a0
    else
      P_spec_GoodAtom_1_3 a0
noncomputable def c_spec_GoodAtom : Ctr := ⟨64, [TyAtom], [.bool], fun x => P_spec_GoodAtom x.1⟩
def A_spec_GoodAtom : List (List Nat × Ann) := [([1, 3], [.keep 0 1, .boxd 0 1 TyAtom]), ([1, 8], [.keep 0 1, .keep 0 29, .keep 0 40, .boxd 0 1 TyAtom])]
def In_spec_GoodAtom : List (List Nat × Nat) := []
noncomputable def cs_spec_GoodAtom : List Ctr := [c_spec_l1Printed, c_spec_GoodName, c_spec_l1Pow2, c_spec_l1Block]
noncomputable def F_spec_GoodAtom (n : Nat) (a0 : DAtom) : Option Bool := run Tryd.prog A_spec_GoodAtom In_spec_GoodAtom (conOf cs_spec_GoodAtom) Tryd.f64 (Tryd.f64.body.getD .skip) (packT [.bool]) n (argsV [TyAtom] (a0, ()))
noncomputable abbrev L_spec_GoodAtom_1_3 (n : Nat) (x1 : DAtom) : Option Bool := lam Tryd.prog A_spec_GoodAtom In_spec_GoodAtom (conOf cs_spec_GoodAtom) Tryd.f64 (Tryd.f64.body.getD .skip) (packT [.bool]) n [1, 3] [.ptr 0 1 0, .agg (explode TyAtom x1)]
noncomputable abbrev L_spec_GoodAtom_1_8 (n : Nat) (x1 : Int) (x2 : Bool) (x3 : DAtom) : Option Bool := lam Tryd.prog A_spec_GoodAtom In_spec_GoodAtom (conOf cs_spec_GoodAtom) Tryd.f64 (Tryd.f64.body.getD .skip) (packT [.bool]) n [1, 8] [.ptr 0 1 0, .d I64 x1, .d .bool x2, .agg (explode TyAtom x3)]
theorem F_spec_GoodAtom_eq (n : Nat) (a0 : DAtom) : F_spec_GoodAtom n a0 =
    bif !decide (a0.1 = 3) then
      bif !decide (a0.1 = 4) then
        bif !decide (a0.2.2.1 = ([] : List Int)) then
          some false
        else
          bif !decide (a0.1 = 4) then
            bif !decide (a0.2.2.2 = ([] : List Int)) then
              some false
            else
              L_spec_GoodAtom_1_3 n a0
          else
            L_spec_GoodAtom_1_3 n a0
      else
        bif !decide (a0.1 = 4) then
          bif !decide (a0.2.2.2 = ([] : List Int)) then
            some false
          else
            L_spec_GoodAtom_1_3 n a0
        else
          L_spec_GoodAtom_1_3 n a0
    else
      bif !decide (a0.1 = 4) then
        bif !decide (a0.2.2.2 = ([] : List Int)) then
          some false
        else
          L_spec_GoodAtom_1_3 n a0
      else
        L_spec_GoodAtom_1_3 n a0 := by kernel_rfl
theorem L_spec_GoodAtom_1_3_eq (n : Nat) (x1 : DAtom) : L_spec_GoodAtom_1_3 (n + 1) x1 =
    bif decide (x1.1 = 1) then
      bif decide (x1.2.1 = 0) then
        some true
      else
        some (decide (x1.2.1 = 1))
    else
      bif decide (x1.1 = 2) then
        L_spec_GoodAtom_1_8 n x1.1 (decide (x1.1 = 2)) x1
      else
        L_spec_GoodAtom_1_8 n x1.1 (decide (x1.1 = 5)) x1 := by kernel_rfl
theorem L_spec_GoodAtom_1_8_eq (n : Nat) (x1 : Int) (x2 : Bool) (x3 : DAtom) : L_spec_GoodAtom_1_8 (n + 1) x1 x2 x3 =
    bif x2 then
      some true
    else
      bif decide (x1 = 3) then
        bif decide (x3.2.1 = 0) then
          bif decide ((x3.2.2.1.length : Int) ≤ 200) then
            Option.bind (P_spec_l1Printed x3.2.2.1) fun (y1 : Bool) =>
            some y1
          else
            some false
        else
          some false
      else
        bif decide (x1 = 4) then
          bif decide (x3.2.1 = 0) then
            Option.bind (P_spec_GoodName x3.2.2.2) fun (y2 : Bool) =>
            bif y2 then
              bif decide ((1 : Int) ≤ (x3.2.2.1.length : Int)) then
                bif decide ((x3.2.2.1.length : Int) ≤ 200) then
                  Option.bind (P_spec_l1Printed x3.2.2.1) fun (y3 : Bool) =>
                  some y3
                else
                  some false
              else
                some false
            else
              some false
          else
            some false
        else
          bif decide (x1 = 6) then
            bif decide (x3.2.1 < 0) then
              some false
            else
              Option.bind (E_spec_l1Pow2 32) fun (y4 : Int) =>
              bif decide (IntKind.wrap .i64 (y4 - 1) < IntKind.wrap .i64 (Int.tdiv x3.2.1 64)) then
                some false
              else
                bif decide ((32 : Int) < Int.tmod x3.2.1 64) then
                  some false
                else
                  Option.bind (P_spec_l1Block x3) fun (y5 : (Int × Int)) =>
                  bif decide (y5.2 = 0) then none else
                  some (decide (Int.tmod y5.1 y5.2 = 0))
          else
            bif decide (x1 = 7) then
              bif decide (((-100000000000) : Int) ≤ x3.2.1) then
                some (decide (x3.2.1 ≤ 100000000000))
              else
                some false
            else
              some false := by kernel_rfl
theorem S_spec_GoodAtom_1_8 {x1 : Int} {x2 : Bool} {x3 : DAtom} {r : Bool} (h : P_spec_GoodAtom_1_8 x1 x2 x3 = some r) : Ev (fun n => L_spec_GoodAtom_1_8 n x1 x2 x3) r := by
  rw [P_spec_GoodAtom_1_8] at h
  refine Ev.step ?_ (fun n => L_spec_GoodAtom_1_8_eq n x1 x2 x3)
  exact (Ev.ofBif h (fun h => (Ev.ofSome h)) (fun h => (Ev.ofBif h (fun h => (Ev.ofBif h (fun h => (Ev.ofBif h (fun h => (Ev.ofBind h fun y1 h => (Ev.ofSome h))) (fun h => (Ev.ofSome h)))) (fun h => (Ev.ofSome h)))) (fun h => (Ev.ofBif h (fun h => (Ev.ofBif h (fun h => (Ev.ofBind h fun y2 h => (Ev.ofBif h (fun h => (Ev.ofBif h (fun h => (Ev.ofBif h (fun h => (Ev.ofBind h fun y3 h => (Ev.ofSome h))) (fun h => (Ev.ofSome h)))) (fun h => (Ev.ofSome h)))) (fun h => (Ev.ofSome h))))) (fun h => (Ev.ofSome h)))) (fun h => (Ev.ofBif h (fun h => (Ev.ofBif h (fun h => (Ev.ofSome h)) (fun h => (Ev.ofBind h fun y4 h => (Ev.ofBif h (fun h => (Ev.ofSome h)) (fun h => (Ev.ofBif h (fun h => (Ev.ofSome h)) (fun h => (Ev.ofBind h fun y5 h => (Ev.ofBif h (fun h => (Ev.ofNone h)) (fun h => (Ev.ofSome h)))))))))))) (fun h => (Ev.ofBif h (fun h => (Ev.ofBif h (fun h => (Ev.ofSome h)) (fun h => (Ev.ofSome h)))) (fun h => (Ev.ofSome h)))))))))))
theorem S_spec_GoodAtom_1_3 {x1 : DAtom} {r : Bool} (h : P_spec_GoodAtom_1_3 x1 = some r) : Ev (fun n => L_spec_GoodAtom_1_3 n x1) r := by
  rw [P_spec_GoodAtom_1_3] at h
  refine Ev.step ?_ (fun n => L_spec_GoodAtom_1_3_eq n x1)
  exact (Ev.ofBif h (fun h => (Ev.ofBif h (fun h => (Ev.ofSome h)) (fun h => (Ev.ofSome h)))) (fun h => (Ev.ofBif h (fun h => (S_spec_GoodAtom_1_8 h)) (fun h => (S_spec_GoodAtom_1_8 h)))))
theorem S_spec_GoodAtom (a0 : DAtom) {r : Bool} (h : P_spec_GoodAtom a0 = some r) : Ev (fun n => F_spec_GoodAtom n a0) r := by
  rw [P_spec_GoodAtom] at h
  refine Ev.of_eq ?_ (fun n => F_spec_GoodAtom_eq n a0)
  exact (Ev.ofBif h (fun h => (Ev.ofBif h (fun h => (Ev.ofBif h (fun h => (Ev.ofSome h)) (fun h => (Ev.ofBif h (fun h => (Ev.ofBif h (fun h => (Ev.ofSome h)) (fun h => (S_spec_GoodAtom_1_3 h)))) (fun h => (S_spec_GoodAtom_1_3 h)))))) (fun h => (Ev.ofBif h (fun h => (Ev.ofBif h (fun h => (Ev.ofSome h)) (fun h => (S_spec_GoodAtom_1_3 h)))) (fun h => (S_spec_GoodAtom_1_3 h)))))) (fun h => (Ev.ofBif h (fun h => (Ev.ofBif h (fun h => (Ev.ofSome h)) (fun h => (S_spec_GoodAtom_1_3 h)))) (fun h => (S_spec_GoodAtom_1_3 h)))))
theorem hcs_spec_GoodAtom : ∀ x ∈ cs_spec_GoodAtom, CtrOk Tryd.prog x := (conOf_cons ok_spec_l1Printed (conOf_cons ok_spec_GoodName (conOf_cons ok_spec_l1Pow2 (conOf_cons ok_spec_l1Block conOf_nil))))
theorem ok_spec_GoodAtom : CtrOk Tryd.prog (c_spec_GoodAtom) := by
  refine ctr_of_run (c := c_spec_GoodAtom) (by kernel_rfl) (by kernel_rfl : Tryd.prog.funcs[64]? = some Tryd.f64) (code := Tryd.f64.body.getD .skip) (by kernel_rfl) (by kernel_rfl) (by kernel_rfl) (A := A_spec_GoodAtom) (I := In_spec_GoodAtom) (hcs_spec_GoodAtom) ?_
  rintro ⟨a0, u⟩ y hy
  exact (S_spec_GoodAtom a0 hy).get

/-! ## spec.l1CmpNum (81) -/
def T_spec_l1CmpNum (a0 : Int) (a1 : Int) : Int :=
  bif decide (a0 < a1) then
    (-1)
  else
    bif decide (a1 < a0) then
      1
    else
      0
noncomputable def c_spec_l1CmpNum : Ctr := ⟨81, [I64, I64], [I64], fun x => some (T_spec_l1CmpNum x.1 x.2.1)⟩
def A_spec_l1CmpNum : List (List Nat × Ann) := []
def In_spec_l1CmpNum : List (List Nat × Nat) := []
noncomputable def cs_spec_l1CmpNum : List Ctr := []
noncomputable def F_spec_l1CmpNum (n : Nat) (a0 : Int) (a1 : Int) : Option Int := run Tryd.prog A_spec_l1CmpNum In_spec_l1CmpNum (conOf cs_spec_l1CmpNum) Tryd.f81 (Tryd.f81.body.getD .skip) (packT [I64]) n (argsV [I64, I64] (a0, a1, ()))
theorem F_spec_l1CmpNum_eq (n : Nat) (a0 : Int) (a1 : Int) : F_spec_l1CmpNum n a0 a1 =
    bif decide (a0 < a1) then
      some (-1)
    else
      bif decide (a1 < a0) then
        some 1
      else
        some 0 := by kernel_rfl
theorem S_spec_l1CmpNum (n : Nat) (a0 : Int) (a1 : Int) : F_spec_l1CmpNum n a0 a1 = some (T_spec_l1CmpNum a0 a1) := (F_spec_l1CmpNum_eq n a0 a1).trans (cond_some rfl (cond_some rfl rfl))
theorem hcs_spec_l1CmpNum : ∀ x ∈ cs_spec_l1CmpNum, CtrOk Tryd.prog x := conOf_nil
theorem ok_spec_l1CmpNum : CtrOk Tryd.prog (c_spec_l1CmpNum) := by
  refine ctr_of_run (c := c_spec_l1CmpNum) (by kernel_rfl) (by kernel_rfl : Tryd.prog.funcs[81]? = some Tryd.f81) (code := Tryd.f81.body.getD .skip) (by kernel_rfl) (by kernel_rfl) (by kernel_rfl) (A := A_spec_l1CmpNum) (I := In_spec_l1CmpNum) (hcs_spec_l1CmpNum) ?_
  rintro ⟨a0, a1, u⟩ y hy
  exact ⟨0, (S_spec_l1CmpNum 0 a0 a1).trans hy⟩

/-! ## spec.l1CmpText (43) -/
noncomputable def P_spec_l1CmpText_0_2 (x1 : (List Int)) (x2 : (List Int)) : List Int → Nat → Option Int
  | [], k =>
      some (T_spec_l1CmpNum (x1.length : Int) (x2.length : Int))
  | e :: rest, k =>
      bif decide ((k : Int) < (x2.length : Int)) then
        bif inB (k : Int) x2.length then
          bif !decide (e = rd x2 (k : Int) 0) then
            bif inB (k : Int) x2.length then
              some (T_spec_l1CmpNum (IntKind.wrap .i64 (e)) (IntKind.wrap .i64 (rd x2 (k : Int) 0)))
            else none
          else
            P_spec_l1CmpText_0_2 x1 x2 rest (k + 1)
        else none
      else
        some (T_spec_l1CmpNum (x1.length : Int) (x2.length : Int))
noncomputable def P_spec_l1CmpText (a0 : (List Int)) (a1 : (List Int)) : Option Int :=
  lenOk a0 (P_spec_l1CmpText_0_2 a0 a1 a0 0)
noncomputable def c_spec_l1CmpText : Ctr := ⟨43, [.str, .str], [I64], fun x => P_spec_l1CmpText x.1 x.2.1⟩
def A_spec_l1CmpText : List (List Nat × Ann) := [([0, 2], [.keep 0 0, .keep 0 1, .keep 0 5])]
def In_spec_l1CmpText : List (List Nat × Nat) := []
noncomputable def cs_spec_l1CmpText : List Ctr := [c_spec_l1CmpNum]
noncomputable def F_spec_l1CmpText (n : Nat) (a0 : (List Int)) (a1 : (List Int)) : Option Int := run Tryd.prog A_spec_l1CmpText In_spec_l1CmpText (conOf cs_spec_l1CmpText) Tryd.f43 (Tryd.f43.body.getD .skip) (packT [I64]) n (argsV [.str, .str] (a0, a1, ()))
noncomputable abbrev L_spec_l1CmpText_0_2 (n : Nat) (x1 : (List Int)) (x2 : (List Int)) (x3 : Int) : Option Int := lam Tryd.prog A_spec_l1CmpText In_spec_l1CmpText (conOf cs_spec_l1CmpText) Tryd.f43 (Tryd.f43.body.getD .skip) (packT [I64]) n [0, 2] [.d .str x1, .d .str x2, .d I64 x3]
theorem F_spec_l1CmpText_eq (n : Nat) (a0 : (List Int)) (a1 : (List Int)) : F_spec_l1CmpText n a0 a1 =
    L_spec_l1CmpText_0_2 n a0 a1 0 := by kernel_rfl
theorem L_spec_l1CmpText_0_2_eq (n : Nat) (x1 : (List Int)) (x2 : (List Int)) (x3 : Int) : L_spec_l1CmpText_0_2 (n + 1) x1 x2 x3 =
    bif decide (x3 < (x1.length : Int)) then
      bif decide (x3 < (x2.length : Int)) then
        bif inB x3 x1.length then
          bif inB x3 x2.length then
            bif !decide (rd x1 x3 0 = rd x2 x3 0) then
              bif inB x3 x1.length then
                bif inB x3 x2.length then
                  some (T_spec_l1CmpNum (IntKind.wrap .i64 (rd x1 x3 0)) (IntKind.wrap .i64 (rd x2 x3 0)))
                else none
              else none
            else
              L_spec_l1CmpText_0_2 n x1 x2 (IntKind.wrap .i64 (x3 + 1))
          else none
        else none
      else
        some (T_spec_l1CmpNum (x1.length : Int) (x2.length : Int))
    else
      some (T_spec_l1CmpNum (x1.length : Int) (x2.length : Int)) := by kernel_rfl
theorem S_spec_l1CmpText_0_2 {x1 : (List Int)} {x2 : (List Int)} (hl : x1.length ≤ maxLen) : ∀ (rest : List Int) (k : Nat) (r : Int), rest = x1.drop k → P_spec_l1CmpText_0_2 x1 x2 rest k = some r → Ev (fun n => L_spec_l1CmpText_0_2 n x1 x2 (k : Int)) r := by
  intro rest
  induction rest with
  | nil =>
    intro k r hr h
    have hk := drop_nil hr
    rw [P_spec_l1CmpText_0_2] at h
    refine Ev.step ?_ (fun n => L_spec_l1CmpText_0_2_eq n x1 x2 (k : Int))
    rw [show decide ((k : Int) < (x1.length : Int)) = false from decide_eq_false (by omega)]
    exact Ev.neg rfl (Ev.ofSome h)
  | cons e rest ih =>
    intro k r hr h
    obtain ⟨hk, hx, hr2⟩ := drop_cons (d := 0) hr
    have hw := wrap_succ hl hk
    have ih2 : ∀ (r : Int), P_spec_l1CmpText_0_2 x1 x2 rest (k + 1) = some r → Ev (fun n => L_spec_l1CmpText_0_2 n x1 x2 (IntKind.wrap .i64 ((k : Int) + 1))) r := by
      intro r h; rw [hw]; exact ih (k + 1) r hr2 h
    rw [P_spec_l1CmpText_0_2] at h
    refine Ev.step ?_ (fun n => L_spec_l1CmpText_0_2_eq n x1 x2 (k : Int))
    rw [show decide ((k : Int) < (x1.length : Int)) = true from decide_eq_true (by omega), inB_nat2 hk, hx]
    exact Ev.pos rfl (Ev.ofBif h (fun h => (Ev.pos rfl (Ev.ofBif h (fun h => (Ev.ofBif h (fun h => (Ev.pos rfl (Ev.ofBif h (fun h => (Ev.ofSome h)) (fun h => (Ev.ofNone h))))) (fun h => (ih2  _ h)))) (fun h => (Ev.ofNone h))))) (fun h => (Ev.ofSome h)))
theorem S_spec_l1CmpText (a0 : (List Int)) (a1 : (List Int)) {r : Int} (h : P_spec_l1CmpText a0 a1 = some r) : Ev (fun n => F_spec_l1CmpText n a0 a1) r := by
  rw [P_spec_l1CmpText] at h
  refine Ev.of_eq ?_ (fun n => F_spec_l1CmpText_eq n a0 a1)
  exact (Ev.ofLen h fun hl h => S_spec_l1CmpText_0_2 hl _ (0 : Nat) _ rfl h)
theorem hcs_spec_l1CmpText : ∀ x ∈ cs_spec_l1CmpText, CtrOk Tryd.prog x := (conOf_cons ok_spec_l1CmpNum conOf_nil)
theorem ok_spec_l1CmpText : CtrOk Tryd.prog (c_spec_l1CmpText) := by
  refine ctr_of_run (c := c_spec_l1CmpText) (by kernel_rfl) (by kernel_rfl : Tryd.prog.funcs[43]? = some Tryd.f43) (code := Tryd.f43.body.getD .skip) (by kernel_rfl) (by kernel_rfl) (by kernel_rfl) (A := A_spec_l1CmpText) (I := In_spec_l1CmpText) (hcs_spec_l1CmpText) ?_
  rintro ⟨a0, a1, u⟩ y hy
  exact (S_spec_l1CmpText a0 a1 hy).get

/-! ## spec.l1Cmp (65) -/
noncomputable def P_spec_l1Cmp (a0 : DAtom) (a1 : DAtom) : Option Int :=
  bif !decide (T_spec_l1CmpNum a0.1 a1.1 = 0) then
    some (T_spec_l1CmpNum a0.1 a1.1)
  else
    bif !decide (T_spec_l1CmpNum a0.2.1 a1.2.1 = 0) then
      some (T_spec_l1CmpNum a0.2.1 a1.2.1)
    else
      Option.bind (P_spec_l1CmpText a0.2.2.2 a1.2.2.2) fun (y1 : Int) =>
      bif !decide (y1 = 0) then
        some y1
      else
        Option.bind (P_spec_l1CmpText a0.2.2.1 a1.2.2.1) fun (y2 : Int) =>
        some y2
noncomputable def c_spec_l1Cmp : Ctr := ⟨65, [TyAtom, TyAtom], [I64], fun x => P_spec_l1Cmp x.1 x.2.1⟩
def A_spec_l1Cmp : List (List Nat × Ann) := []
def In_spec_l1Cmp : List (List Nat × Nat) := []
noncomputable def cs_spec_l1Cmp : List Ctr := [c_spec_l1CmpNum, c_spec_l1CmpText]
noncomputable def F_spec_l1Cmp (n : Nat) (a0 : DAtom) (a1 : DAtom) : Option Int := run Tryd.prog A_spec_l1Cmp In_spec_l1Cmp (conOf cs_spec_l1Cmp) Tryd.f65 (Tryd.f65.body.getD .skip) (packT [I64]) n (argsV [TyAtom, TyAtom] (a0, a1, ()))
theorem F_spec_l1Cmp_eq (n : Nat) (a0 : DAtom) (a1 : DAtom) : F_spec_l1Cmp n a0 a1 =
    bif !decide (T_spec_l1CmpNum a0.1 a1.1 = 0) then
      some (T_spec_l1CmpNum a0.1 a1.1)
    else
      bif !decide (T_spec_l1CmpNum a0.2.1 a1.2.1 = 0) then
        some (T_spec_l1CmpNum a0.2.1 a1.2.1)
      else
        Option.bind (P_spec_l1CmpText a0.2.2.2 a1.2.2.2) fun (y1 : Int) =>
        bif !decide (y1 = 0) then
          some y1
        else
          Option.bind (P_spec_l1CmpText a0.2.2.1 a1.2.2.1) fun (y2 : Int) =>
          some y2 := by kernel_rfl
theorem S_spec_l1Cmp (a0 : DAtom) (a1 : DAtom) {r : Int} (h : P_spec_l1Cmp a0 a1 = some r) : Ev (fun n => F_spec_l1Cmp n a0 a1) r := by
  rw [P_spec_l1Cmp] at h
  refine Ev.of_eq ?_ (fun n => F_spec_l1Cmp_eq n a0 a1)
  exact (Ev.ofBif h (fun h => (Ev.ofSome h)) (fun h => (Ev.ofBif h (fun h => (Ev.ofSome h)) (fun h => (Ev.ofBind h fun y1 h => (Ev.ofBif h (fun h => (Ev.ofSome h)) (fun h => (Ev.ofBind h fun y2 h => (Ev.ofSome h)))))))))
theorem hcs_spec_l1Cmp : ∀ x ∈ cs_spec_l1Cmp, CtrOk Tryd.prog x := (conOf_cons ok_spec_l1CmpNum (conOf_cons ok_spec_l1CmpText conOf_nil))
theorem ok_spec_l1Cmp : CtrOk Tryd.prog (c_spec_l1Cmp) := by
  refine ctr_of_run (c := c_spec_l1Cmp) (by kernel_rfl) (by kernel_rfl : Tryd.prog.funcs[65]? = some Tryd.f65) (code := Tryd.f65.body.getD .skip) (by kernel_rfl) (by kernel_rfl) (by kernel_rfl) (A := A_spec_l1Cmp) (I := In_spec_l1Cmp) (hcs_spec_l1Cmp) ?_
  rintro ⟨a0, a1, u⟩ y hy
  exact (S_spec_l1Cmp a0 a1 hy).get

/-! ## spec.GoodValue (24) -/
noncomputable def P_spec_GoodValue_0_19 (x4 : DValue) : List (List Int) → Nat → Option Bool
  | [], k =>
      some true
  | e :: rest, k =>
      Option.bind (P_spec_GoodName (e)) fun (y4 : Bool) =>
      bif !(y4) then
        some false
      else
        bif decide ((0 : Int) < (k : Int)) then
          bif inB (IntKind.wrap .i64 ((k : Int) - 1)) x4.2.2.2.length then
            Option.bind (P_spec_l1CmpText (rd x4.2.2.2 (IntKind.wrap .i64 ((k : Int) - 1)) (Ty.dflt .str)) (e)) fun (y5 : Int) =>
            bif decide ((0 : Int) ≤ y5) then
              some false
            else
              P_spec_GoodValue_0_19 x4 rest (k + 1)
          else none
        else
          P_spec_GoodValue_0_19 x4 rest (k + 1)
noncomputable def P_spec_GoodValue_0_9 (x4 : DValue) : List DAtom → Nat → Option Bool
  | [], k =>
      bif decide (x4.1 = 2) then
        some (decide ((x4.2.2.2.length : Int) = 0))
      else
        bif !decide ((x4.2.2.2.length : Int) = (x4.2.2.1.length : Int)) then
          some false
        else
          lenOk x4.2.2.2 (P_spec_GoodValue_0_19 x4 x4.2.2.2 0)
  | e :: rest, k =>
      Option.bind (P_spec_GoodAtom (e)) fun (y2 : Bool) =>
      bif !(y2) then
        some false
      else
        bif decide (x4.1 = 2) then
          bif decide ((0 : Int) < (k : Int)) then
            bif inB (IntKind.wrap .i64 ((k : Int) - 1)) x4.2.2.1.length then
              Option.bind (P_spec_l1Cmp (rd x4.2.2.1 (IntKind.wrap .i64 ((k : Int) - 1)) (Ty.dflt TyAtom)) (e)) fun (y3 : Int) =>
              bif decide ((0 : Int) ≤ y3) then
                some false
              else
                P_spec_GoodValue_0_9 x4 rest (k + 1)
            else none
          else
            P_spec_GoodValue_0_9 x4 rest (k + 1)
        else
          P_spec_GoodValue_0_9 x4 rest (k + 1)
noncomputable def P_spec_GoodValue_1_6 (x1 : Bool) (x2 : DValue) : Option Bool :=
  bif x1 then
    bif !@decide (x2.2.1 = (0, 0, ([] : List Int), ([] : List Int))) (Ty.decEq TyAtom x2.2.1 (0, 0, ([] : List Int), ([] : List Int))) then
      some false
    else
      bif decide ((50 : Int) < (x2.2.2.1.length : Int)) then
        some false
      else
        lenOk x2.2.2.1 (P_spec_GoodValue_0_9 x2 x2.2.2.1 0)
  else
    some false
noncomputable def P_spec_GoodValue (a0 : DValue) : Option Bool :=
  bif decide (a0.1 = 1) then
    Option.bind (P_spec_GoodAtom a0.2.1) fun (y1 : Bool) =>
    bif y1 then
      bif decide ((a0.2.2.1.length : Int) = 0) then
        some (decide ((a0.2.2.2.length : Int) = 0))
      else
        some false
    else
      some false
  else
    bif decide (a0.1 = 2) then
      P_spec_GoodValue_1_6 (decide (a0.1 = 2)) a0
    else
      P_spec_GoodValue_1_6 (decide (a0.1 = 3)) a0
noncomputable def c_spec_GoodValue : Ctr := ⟨24, [TyValue], [.bool], fun x => P_spec_GoodValue x.1⟩
def A_spec_GoodValue : List (List Nat × Ann) := [([1, 6], [.keep 0 1, .keep 0 26, .boxd 0 1 TyValue]), ([0, 9], [.keep 0 1, .keep 0 40, .keep 0 41, .keep 0 42, .boxd 0 1 TyValue]), ([0, 19], [.keep 0 1, .keep 0 86, .keep 0 87, .keep 0 88, .boxd 0 1 TyValue])]
def In_spec_GoodValue : List (List Nat × Nat) := []
noncomputable def cs_spec_GoodValue : List Ctr := [c_spec_GoodAtom, c_spec_l1Cmp, c_spec_GoodName, c_spec_l1CmpText]
noncomputable def F_spec_GoodValue (n : Nat) (a0 : DValue) : Option Bool := run Tryd.prog A_spec_GoodValue In_spec_GoodValue (conOf cs_spec_GoodValue) Tryd.f24 (Tryd.f24.body.getD .skip) (packT [.bool]) n (argsV [TyValue] (a0, ()))
noncomputable abbrev L_spec_GoodValue_1_6 (n : Nat) (x1 : Bool) (x2 : DValue) : Option Bool := lam Tryd.prog A_spec_GoodValue In_spec_GoodValue (conOf cs_spec_GoodValue) Tryd.f24 (Tryd.f24.body.getD .skip) (packT [.bool]) n [1, 6] [.ptr 0 1 0, .d .bool x1, .agg (explode TyValue x2)]
noncomputable abbrev L_spec_GoodValue_0_9 (n : Nat) (x1 : (List DAtom)) (x2 : Int) (x3 : Int) (x4 : DValue) : Option Bool := lam Tryd.prog A_spec_GoodValue In_spec_GoodValue (conOf cs_spec_GoodValue) Tryd.f24 (Tryd.f24.body.getD .skip) (packT [.bool]) n [0, 9] [.ptr 0 1 0, .d (.list TyAtom) x1, .d I64 x2, .d I64 x3, .agg (explode TyValue x4)]
noncomputable abbrev L_spec_GoodValue_0_19 (n : Nat) (x1 : (List (List Int))) (x2 : Int) (x3 : Int) (x4 : DValue) : Option Bool := lam Tryd.prog A_spec_GoodValue In_spec_GoodValue (conOf cs_spec_GoodValue) Tryd.f24 (Tryd.f24.body.getD .skip) (packT [.bool]) n [0, 19] [.ptr 0 1 0, .d (.list .str) x1, .d I64 x2, .d I64 x3, .agg (explode TyValue x4)]
theorem F_spec_GoodValue_eq (n : Nat) (a0 : DValue) : F_spec_GoodValue n a0 =
    bif decide (a0.1 = 1) then
      Option.bind (P_spec_GoodAtom a0.2.1) fun (y1 : Bool) =>
      bif y1 then
        bif decide ((a0.2.2.1.length : Int) = 0) then
          some (decide ((a0.2.2.2.length : Int) = 0))
        else
          some false
      else
        some false
    else
      bif decide (a0.1 = 2) then
        L_spec_GoodValue_1_6 n (decide (a0.1 = 2)) a0
      else
        L_spec_GoodValue_1_6 n (decide (a0.1 = 3)) a0 := by kernel_rfl
theorem L_spec_GoodValue_1_6_eq (n : Nat) (x1 : Bool) (x2 : DValue) : L_spec_GoodValue_1_6 (n + 1) x1 x2 =
    bif x1 then
      bif !@decide (x2.2.1 = (0, 0, ([] : List Int), ([] : List Int))) (Ty.decEq TyAtom x2.2.1 (0, 0, ([] : List Int), ([] : List Int))) then
        some false
      else
        bif decide ((50 : Int) < (x2.2.2.1.length : Int)) then
          some false
        else
          L_spec_GoodValue_0_9 n x2.2.2.1 (x2.2.2.1.length : Int) 0 x2
    else
      some false := by kernel_rfl
theorem L_spec_GoodValue_0_9_eq (n : Nat) (x1 : (List DAtom)) (x2 : Int) (x3 : Int) (x4 : DValue) : L_spec_GoodValue_0_9 (n + 1) x1 x2 x3 x4 =
    bif decide (x3 < x2) then
      bif inB x3 x1.length then
        Option.bind (P_spec_GoodAtom (rd x1 x3 (Ty.dflt TyAtom))) fun (y2 : Bool) =>
        bif !(y2) then
          some false
        else
          bif decide (x4.1 = 2) then
            bif decide ((0 : Int) < x3) then
              bif inB (IntKind.wrap .i64 (x3 - 1)) x4.2.2.1.length then
                Option.bind (P_spec_l1Cmp (rd x4.2.2.1 (IntKind.wrap .i64 (x3 - 1)) (Ty.dflt TyAtom)) (rd x1 x3 (Ty.dflt TyAtom))) fun (y3 : Int) =>
                bif decide ((0 : Int) ≤ y3) then
                  some false
                else
                  L_spec_GoodValue_0_9 n x1 x2 (IntKind.wrap .i64 (x3 + 1)) x4
              else none
            else
              L_spec_GoodValue_0_9 n x1 x2 (IntKind.wrap .i64 (x3 + 1)) x4
          else
            L_spec_GoodValue_0_9 n x1 x2 (IntKind.wrap .i64 (x3 + 1)) x4
      else none
    else
      bif decide (x4.1 = 2) then
        some (decide ((x4.2.2.2.length : Int) = 0))
      else
        bif !decide ((x4.2.2.2.length : Int) = (x4.2.2.1.length : Int)) then
          some false
        else
          L_spec_GoodValue_0_19 n x4.2.2.2 (x4.2.2.2.length : Int) 0 x4 := by kernel_rfl
theorem L_spec_GoodValue_0_19_eq (n : Nat) (x1 : (List (List Int))) (x2 : Int) (x3 : Int) (x4 : DValue) : L_spec_GoodValue_0_19 (n + 1) x1 x2 x3 x4 =
    bif decide (x3 < x2) then
      bif inB x3 x1.length then
        Option.bind (P_spec_GoodName (rd x1 x3 (Ty.dflt .str))) fun (y4 : Bool) =>
        bif !(y4) then
          some false
        else
          bif decide ((0 : Int) < x3) then
            bif inB (IntKind.wrap .i64 (x3 - 1)) x4.2.2.2.length then
              Option.bind (P_spec_l1CmpText (rd x4.2.2.2 (IntKind.wrap .i64 (x3 - 1)) (Ty.dflt .str)) (rd x1 x3 (Ty.dflt .str))) fun (y5 : Int) =>
              bif decide ((0 : Int) ≤ y5) then
                some false
              else
                L_spec_GoodValue_0_19 n x1 x2 (IntKind.wrap .i64 (x3 + 1)) x4
            else none
          else
            L_spec_GoodValue_0_19 n x1 x2 (IntKind.wrap .i64 (x3 + 1)) x4
      else none
    else
      some true := by kernel_rfl
theorem S_spec_GoodValue_0_19 {x1 : (List (List Int))} {x4 : DValue} (hl : x1.length ≤ maxLen) : ∀ (rest : List (List Int)) (k : Nat) (r : Bool), rest = x1.drop k → P_spec_GoodValue_0_19 x4 rest k = some r → Ev (fun n => L_spec_GoodValue_0_19 n x1 (x1.length : Int) (k : Int) x4) r := by
  intro rest
  induction rest with
  | nil =>
    intro k r hr h
    have hk := drop_nil hr
    rw [P_spec_GoodValue_0_19] at h
    refine Ev.step ?_ (fun n => L_spec_GoodValue_0_19_eq n x1 (x1.length : Int) (k : Int) x4)
    rw [show decide ((k : Int) < (x1.length : Int)) = false from decide_eq_false (by omega)]
    exact Ev.neg rfl (Ev.ofSome h)
  | cons e rest ih =>
    intro k r hr h
    obtain ⟨hk, hx, hr2⟩ := drop_cons (d := (Ty.dflt .str)) hr
    have hw := wrap_succ hl hk
    have ih2 : ∀ (r : Bool), P_spec_GoodValue_0_19 x4 rest (k + 1) = some r → Ev (fun n => L_spec_GoodValue_0_19 n x1 (x1.length : Int) (IntKind.wrap .i64 ((k : Int) + 1)) x4) r := by
      intro r h; rw [hw]; exact ih (k + 1) r hr2 h
    rw [P_spec_GoodValue_0_19] at h
    refine Ev.step ?_ (fun n => L_spec_GoodValue_0_19_eq n x1 (x1.length : Int) (k : Int) x4)
    rw [show decide ((k : Int) < (x1.length : Int)) = true from decide_eq_true (by omega), inB_nat2 hk, hx]
    exact Ev.pos rfl (Ev.pos rfl (Ev.ofBind h fun y4 h => (Ev.ofBif h (fun h => (Ev.ofSome h)) (fun h => (Ev.ofBif h (fun h => (Ev.ofBif h (fun h => (Ev.ofBind h fun y5 h => (Ev.ofBif h (fun h => (Ev.ofSome h)) (fun h => (ih2  _ h))))) (fun h => (Ev.ofNone h)))) (fun h => (ih2  _ h)))))))
theorem S_spec_GoodValue_0_9 {x1 : (List DAtom)} {x4 : DValue} (hl : x1.length ≤ maxLen) : ∀ (rest : List DAtom) (k : Nat) (r : Bool), rest = x1.drop k → P_spec_GoodValue_0_9 x4 rest k = some r → Ev (fun n => L_spec_GoodValue_0_9 n x1 (x1.length : Int) (k : Int) x4) r := by
  intro rest
  induction rest with
  | nil =>
    intro k r hr h
    have hk := drop_nil hr
    rw [P_spec_GoodValue_0_9] at h
    refine Ev.step ?_ (fun n => L_spec_GoodValue_0_9_eq n x1 (x1.length : Int) (k : Int) x4)
    rw [show decide ((k : Int) < (x1.length : Int)) = false from decide_eq_false (by omega)]
    exact Ev.neg rfl (Ev.ofBif h (fun h => (Ev.ofSome h)) (fun h => (Ev.ofBif h (fun h => (Ev.ofSome h)) (fun h => (Ev.ofLen h fun hl h => S_spec_GoodValue_0_19 hl _ (0 : Nat) _ rfl h)))))
  | cons e rest ih =>
    intro k r hr h
    obtain ⟨hk, hx, hr2⟩ := drop_cons (d := (Ty.dflt TyAtom)) hr
    have hw := wrap_succ hl hk
    have ih2 : ∀ (r : Bool), P_spec_GoodValue_0_9 x4 rest (k + 1) = some r → Ev (fun n => L_spec_GoodValue_0_9 n x1 (x1.length : Int) (IntKind.wrap .i64 ((k : Int) + 1)) x4) r := by
      intro r h; rw [hw]; exact ih (k + 1) r hr2 h
    rw [P_spec_GoodValue_0_9] at h
    refine Ev.step ?_ (fun n => L_spec_GoodValue_0_9_eq n x1 (x1.length : Int) (k : Int) x4)
    rw [show decide ((k : Int) < (x1.length : Int)) = true from decide_eq_true (by omega), inB_nat2 hk, hx]
    exact Ev.pos rfl (Ev.pos rfl (Ev.ofBind h fun y2 h => (Ev.ofBif h (fun h => (Ev.ofSome h)) (fun h => (Ev.ofBif h (fun h => (Ev.ofBif h (fun h => (Ev.ofBif h (fun h => (Ev.ofBind h fun y3 h => (Ev.ofBif h (fun h => (Ev.ofSome h)) (fun h => (ih2  _ h))))) (fun h => (Ev.ofNone h)))) (fun h => (ih2  _ h)))) (fun h => (ih2  _ h)))))))
theorem S_spec_GoodValue_1_6 {x1 : Bool} {x2 : DValue} {r : Bool} (h : P_spec_GoodValue_1_6 x1 x2 = some r) : Ev (fun n => L_spec_GoodValue_1_6 n x1 x2) r := by
  rw [P_spec_GoodValue_1_6] at h
  refine Ev.step ?_ (fun n => L_spec_GoodValue_1_6_eq n x1 x2)
  exact (Ev.ofBif h (fun h => (Ev.ofBif h (fun h => (Ev.ofSome h)) (fun h => (Ev.ofBif h (fun h => (Ev.ofSome h)) (fun h => (Ev.ofLen h fun hl h => S_spec_GoodValue_0_9 hl _ (0 : Nat) _ rfl h)))))) (fun h => (Ev.ofSome h)))
theorem S_spec_GoodValue (a0 : DValue) {r : Bool} (h : P_spec_GoodValue a0 = some r) : Ev (fun n => F_spec_GoodValue n a0) r := by
  rw [P_spec_GoodValue] at h
  refine Ev.of_eq ?_ (fun n => F_spec_GoodValue_eq n a0)
  exact (Ev.ofBif h (fun h => (Ev.ofBind h fun y1 h => (Ev.ofBif h (fun h => (Ev.ofBif h (fun h => (Ev.ofSome h)) (fun h => (Ev.ofSome h)))) (fun h => (Ev.ofSome h))))) (fun h => (Ev.ofBif h (fun h => (S_spec_GoodValue_1_6 h)) (fun h => (S_spec_GoodValue_1_6 h)))))
theorem hcs_spec_GoodValue : ∀ x ∈ cs_spec_GoodValue, CtrOk Tryd.prog x := (conOf_cons ok_spec_GoodAtom (conOf_cons ok_spec_l1Cmp (conOf_cons ok_spec_GoodName (conOf_cons ok_spec_l1CmpText conOf_nil))))
theorem ok_spec_GoodValue : CtrOk Tryd.prog (c_spec_GoodValue) := by
  refine ctr_of_run (c := c_spec_GoodValue) (by kernel_rfl) (by kernel_rfl : Tryd.prog.funcs[24]? = some Tryd.f24) (code := Tryd.f24.body.getD .skip) (by kernel_rfl) (by kernel_rfl) (by kernel_rfl) (A := A_spec_GoodValue) (I := In_spec_GoodValue) (hcs_spec_GoodValue) ?_
  rintro ⟨a0, u⟩ y hy
  exact (S_spec_GoodValue a0 hy).get

/-! ## spec.l11Head (25) -/
noncomputable def P_spec_l11Head (a0 : (List Int)) (a1 : (List Int)) : Option Bool :=
  bif decide ((a1.length : Int) < (a0.length : Int)) then
    bif decide ((0 : Int) ≤ (a1.length : Int)) && decide ((a1.length : Int) ≤ (a0.length : Int)) then
      some (decide (cut a0 0 (a1.length : Int) = a1))
    else none
  else
    some false
noncomputable def c_spec_l11Head : Ctr := ⟨25, [.str, .str], [.bool], fun x => P_spec_l11Head x.1 x.2.1⟩
def A_spec_l11Head : List (List Nat × Ann) := []
def In_spec_l11Head : List (List Nat × Nat) := []
noncomputable def cs_spec_l11Head : List Ctr := []
noncomputable def F_spec_l11Head (n : Nat) (a0 : (List Int)) (a1 : (List Int)) : Option Bool := run Tryd.prog A_spec_l11Head In_spec_l11Head (conOf cs_spec_l11Head) Tryd.f25 (Tryd.f25.body.getD .skip) (packT [.bool]) n (argsV [.str, .str] (a0, a1, ()))
theorem F_spec_l11Head_eq (n : Nat) (a0 : (List Int)) (a1 : (List Int)) : F_spec_l11Head n a0 a1 =
    bif decide ((a1.length : Int) < (a0.length : Int)) then
      bif decide ((0 : Int) ≤ (a1.length : Int)) && decide ((a1.length : Int) ≤ (a0.length : Int)) then
        some (decide (cut a0 0 (a1.length : Int) = a1))
      else none
    else
      some false := by kernel_rfl
theorem S_spec_l11Head (a0 : (List Int)) (a1 : (List Int)) {r : Bool} (h : P_spec_l11Head a0 a1 = some r) : Ev (fun n => F_spec_l11Head n a0 a1) r := by
  rw [P_spec_l11Head] at h
  refine Ev.of_eq ?_ (fun n => F_spec_l11Head_eq n a0 a1)
  exact (Ev.ofBif h (fun h => (Ev.ofBif h (fun h => (Ev.ofSome h)) (fun h => (Ev.ofNone h)))) (fun h => (Ev.ofSome h)))
theorem hcs_spec_l11Head : ∀ x ∈ cs_spec_l11Head, CtrOk Tryd.prog x := conOf_nil
theorem ok_spec_l11Head : CtrOk Tryd.prog (c_spec_l11Head) := by
  refine ctr_of_run (c := c_spec_l11Head) (by kernel_rfl) (by kernel_rfl : Tryd.prog.funcs[25]? = some Tryd.f25) (code := Tryd.f25.body.getD .skip) (by kernel_rfl) (by kernel_rfl) (by kernel_rfl) (A := A_spec_l11Head) (I := In_spec_l11Head) (hcs_spec_l11Head) ?_
  rintro ⟨a0, a1, u⟩ y hy
  exact (S_spec_l11Head a0 a1 hy).get

/-! ## spec.l6Kinds (66) -/
def T_spec_l6Kinds  : (List (List Int)) :=
  ([([] : List Int), ([98, 111, 111, 108] : List Int), ([110, 117, 109] : List Int), ([116, 101, 120, 116] : List Int), ([114, 101, 102] : List Int), ([100, 101, 99] : List Int), ([97, 100, 100, 114] : List Int), ([116, 105, 109, 101] : List Int)] : List (List Int))
noncomputable def c_spec_l6Kinds : Ctr := ⟨66, [], [(.list .str)], fun x => some (T_spec_l6Kinds)⟩
def A_spec_l6Kinds : List (List Nat × Ann) := []
def In_spec_l6Kinds : List (List Nat × Nat) := []
noncomputable def cs_spec_l6Kinds : List Ctr := []
noncomputable def F_spec_l6Kinds (n : Nat)  : Option (List (List Int)) := run Tryd.prog A_spec_l6Kinds In_spec_l6Kinds (conOf cs_spec_l6Kinds) Tryd.f66 (Tryd.f66.body.getD .skip) (packT [(.list .str)]) n (argsV [] (()))
theorem F_spec_l6Kinds_eq (n : Nat)  : F_spec_l6Kinds n  =
    some ([([] : List Int), ([98, 111, 111, 108] : List Int), ([110, 117, 109] : List Int), ([116, 101, 120, 116] : List Int), ([114, 101, 102] : List Int), ([100, 101, 99] : List Int), ([97, 100, 100, 114] : List Int), ([116, 105, 109, 101] : List Int)] : List (List Int)) := by kernel_rfl
theorem S_spec_l6Kinds (n : Nat)  : F_spec_l6Kinds n  = some (T_spec_l6Kinds ) := (F_spec_l6Kinds_eq n ).trans rfl
theorem hcs_spec_l6Kinds : ∀ x ∈ cs_spec_l6Kinds, CtrOk Tryd.prog x := conOf_nil
theorem ok_spec_l6Kinds : CtrOk Tryd.prog (c_spec_l6Kinds) := by
  refine ctr_of_run (c := c_spec_l6Kinds) (by kernel_rfl) (by kernel_rfl : Tryd.prog.funcs[66]? = some Tryd.f66) (code := Tryd.f66.body.getD .skip) (by kernel_rfl) (by kernel_rfl) (by kernel_rfl) (A := A_spec_l6Kinds) (I := In_spec_l6Kinds) (hcs_spec_l6Kinds) ?_
  rintro ⟨u⟩ y hy
  exact ⟨0, (S_spec_l6Kinds 0 ).trans hy⟩

/-! ## spec.l11AtomKind (26) -/
noncomputable def P_spec_l11AtomKind (a0 : DAtom) : Option (List Int) :=
  bif decide (a0.1 = 4) then
    bif decide ((([114, 101, 102, 32] : List Int).length : Int) + (a0.2.2.2.length : Int) ≤ room) then
      some (([114, 101, 102, 32] : List Int) ++ a0.2.2.2)
    else none
  else
    bif inB a0.1 T_spec_l6Kinds.length then
      some (rd T_spec_l6Kinds a0.1 (Ty.dflt .str))
    else none
noncomputable def c_spec_l11AtomKind : Ctr := ⟨26, [TyAtom], [.str], fun x => P_spec_l11AtomKind x.1⟩
def A_spec_l11AtomKind : List (List Nat × Ann) := []
def In_spec_l11AtomKind : List (List Nat × Nat) := []
noncomputable def cs_spec_l11AtomKind : List Ctr := [c_spec_l6Kinds]
noncomputable def F_spec_l11AtomKind (n : Nat) (a0 : DAtom) : Option (List Int) := run Tryd.prog A_spec_l11AtomKind In_spec_l11AtomKind (conOf cs_spec_l11AtomKind) Tryd.f26 (Tryd.f26.body.getD .skip) (packT [.str]) n (argsV [TyAtom] (a0, ()))
theorem F_spec_l11AtomKind_eq (n : Nat) (a0 : DAtom) : F_spec_l11AtomKind n a0 =
    bif decide (a0.1 = 4) then
      bif decide ((([114, 101, 102, 32] : List Int).length : Int) + (a0.2.2.2.length : Int) ≤ room) then
        some (([114, 101, 102, 32] : List Int) ++ a0.2.2.2)
      else none
    else
      bif inB a0.1 T_spec_l6Kinds.length then
        some (rd T_spec_l6Kinds a0.1 (Ty.dflt .str))
      else none := by kernel_rfl
theorem S_spec_l11AtomKind (a0 : DAtom) {r : (List Int)} (h : P_spec_l11AtomKind a0 = some r) : Ev (fun n => F_spec_l11AtomKind n a0) r := by
  rw [P_spec_l11AtomKind] at h
  refine Ev.of_eq ?_ (fun n => F_spec_l11AtomKind_eq n a0)
  exact (Ev.ofBif h (fun h => (Ev.ofBif h (fun h => (Ev.ofSome h)) (fun h => (Ev.ofNone h)))) (fun h => (Ev.ofBif h (fun h => (Ev.ofSome h)) (fun h => (Ev.ofNone h)))))
theorem hcs_spec_l11AtomKind : ∀ x ∈ cs_spec_l11AtomKind, CtrOk Tryd.prog x := (conOf_cons ok_spec_l6Kinds conOf_nil)
theorem ok_spec_l11AtomKind : CtrOk Tryd.prog (c_spec_l11AtomKind) := by
  refine ctr_of_run (c := c_spec_l11AtomKind) (by kernel_rfl) (by kernel_rfl : Tryd.prog.funcs[26]? = some Tryd.f26) (code := Tryd.f26.body.getD .skip) (by kernel_rfl) (by kernel_rfl) (by kernel_rfl) (A := A_spec_l11AtomKind) (I := In_spec_l11AtomKind) (hcs_spec_l11AtomKind) ?_
  rintro ⟨a0, u⟩ y hy
  exact (S_spec_l11AtomKind a0 hy).get

/-! ## spec.l3Has (27) -/
noncomputable def P_spec_l3Has_0_2 (x1 : (List Int)) : List (List Int) → Option Bool
  | [] =>
      some false
  | e :: rest =>
      bif decide (e = x1) then
        some true
      else
        P_spec_l3Has_0_2 x1 rest
noncomputable def P_spec_l3Has (a0 : (List (List Int))) (a1 : (List Int)) : Option Bool :=
  lenOk a0 (P_spec_l3Has_0_2 a1 a0)
noncomputable def c_spec_l3Has : Ctr := ⟨27, [(.list .str), .str], [.bool], fun x => P_spec_l3Has x.1 x.2.1⟩
def A_spec_l3Has : List (List Nat × Ann) := [([0, 2], [.keep 0 1, .keep 0 7, .keep 0 8, .keep 0 9])]
def In_spec_l3Has : List (List Nat × Nat) := []
noncomputable def cs_spec_l3Has : List Ctr := []
noncomputable def F_spec_l3Has (n : Nat) (a0 : (List (List Int))) (a1 : (List Int)) : Option Bool := run Tryd.prog A_spec_l3Has In_spec_l3Has (conOf cs_spec_l3Has) Tryd.f27 (Tryd.f27.body.getD .skip) (packT [.bool]) n (argsV [(.list .str), .str] (a0, a1, ()))
noncomputable abbrev L_spec_l3Has_0_2 (n : Nat) (x1 : (List Int)) (x2 : (List (List Int))) (x3 : Int) (x4 : Int) : Option Bool := lam Tryd.prog A_spec_l3Has In_spec_l3Has (conOf cs_spec_l3Has) Tryd.f27 (Tryd.f27.body.getD .skip) (packT [.bool]) n [0, 2] [.d .str x1, .d (.list .str) x2, .d I64 x3, .d I64 x4]
theorem F_spec_l3Has_eq (n : Nat) (a0 : (List (List Int))) (a1 : (List Int)) : F_spec_l3Has n a0 a1 =
    L_spec_l3Has_0_2 n a1 a0 (a0.length : Int) 0 := by kernel_rfl
theorem L_spec_l3Has_0_2_eq (n : Nat) (x1 : (List Int)) (x2 : (List (List Int))) (x3 : Int) (x4 : Int) : L_spec_l3Has_0_2 (n + 1) x1 x2 x3 x4 =
    bif decide (x4 < x3) then
      bif inB x4 x2.length then
        bif decide (rd x2 x4 (Ty.dflt .str) = x1) then
          some true
        else
          L_spec_l3Has_0_2 n x1 x2 x3 (IntKind.wrap .i64 (x4 + 1))
      else none
    else
      some false := by kernel_rfl
theorem S_spec_l3Has_0_2 {x1 : (List Int)} {x2 : (List (List Int))} (hl : x2.length ≤ maxLen) : ∀ (rest : List (List Int)) (k : Nat) (r : Bool), rest = x2.drop k → P_spec_l3Has_0_2 x1 rest = some r → Ev (fun n => L_spec_l3Has_0_2 n x1 x2 (x2.length : Int) (k : Int)) r := by
  intro rest
  induction rest with
  | nil =>
    intro k r hr h
    have hk := drop_nil hr
    rw [P_spec_l3Has_0_2] at h
    refine Ev.step ?_ (fun n => L_spec_l3Has_0_2_eq n x1 x2 (x2.length : Int) (k : Int))
    rw [show decide ((k : Int) < (x2.length : Int)) = false from decide_eq_false (by omega)]
    exact Ev.neg rfl (Ev.ofSome h)
  | cons e rest ih =>
    intro k r hr h
    obtain ⟨hk, hx, hr2⟩ := drop_cons (d := (Ty.dflt .str)) hr
    have hw := wrap_succ hl hk
    have ih2 : ∀ (r : Bool), P_spec_l3Has_0_2 x1 rest = some r → Ev (fun n => L_spec_l3Has_0_2 n x1 x2 (x2.length : Int) (IntKind.wrap .i64 ((k : Int) + 1))) r := by
      intro r h; rw [hw]; exact ih (k + 1) r hr2 h
    rw [P_spec_l3Has_0_2] at h
    refine Ev.step ?_ (fun n => L_spec_l3Has_0_2_eq n x1 x2 (x2.length : Int) (k : Int))
    rw [show decide ((k : Int) < (x2.length : Int)) = true from decide_eq_true (by omega), inB_nat2 hk, hx]
    exact Ev.pos rfl (Ev.pos rfl (Ev.ofBif h (fun h => (Ev.ofSome h)) (fun h => (ih2  _ h))))
theorem S_spec_l3Has (a0 : (List (List Int))) (a1 : (List Int)) {r : Bool} (h : P_spec_l3Has a0 a1 = some r) : Ev (fun n => F_spec_l3Has n a0 a1) r := by
  rw [P_spec_l3Has] at h
  refine Ev.of_eq ?_ (fun n => F_spec_l3Has_eq n a0 a1)
  exact (Ev.ofLen h fun hl h => S_spec_l3Has_0_2 hl _ (0 : Nat) _ rfl h)
theorem hcs_spec_l3Has : ∀ x ∈ cs_spec_l3Has, CtrOk Tryd.prog x := conOf_nil
theorem ok_spec_l3Has : CtrOk Tryd.prog (c_spec_l3Has) := by
  refine ctr_of_run (c := c_spec_l3Has) (by kernel_rfl) (by kernel_rfl : Tryd.prog.funcs[27]? = some Tryd.f27) (code := Tryd.f27.body.getD .skip) (by kernel_rfl) (by kernel_rfl) (by kernel_rfl) (A := A_spec_l3Has) (I := In_spec_l3Has) (hcs_spec_l3Has) ?_
  rintro ⟨a0, a1, u⟩ y hy
  exact (S_spec_l3Has a0 a1 hy).get

/-! ## spec.FitsKind (7) -/
noncomputable def P_spec_FitsKind_0_9 (x1 : (List Int)) (x5 : DValue) : List DAtom → Option Bool
  | [] =>
      some (decide (x5.1 = 2))
  | e :: rest =>
      Option.bind (P_spec_l11AtomKind (e)) fun (y7 : (List Int)) =>
      bif !decide (y7 = x1) then
        some false
      else
        P_spec_FitsKind_0_9 x1 x5 rest
noncomputable def P_spec_FitsKind (a0 : DValue) (a1 : (List Int)) : Option Bool :=
  Option.bind (P_spec_GoodValue a0) fun (y1 : Bool) =>
  bif !(y1) then
    some false
  else
    Option.bind (P_spec_l11Head a1 ([115, 101, 116, 32] : List Int)) fun (y2 : Bool) =>
    bif !(y2) then
      bif decide (a0.1 = 1) then
        Option.bind (P_spec_l11AtomKind a0.2.1) fun (y3 : (List Int)) =>
        some (decide (y3 = a1))
      else
        some false
    else
      bif true && decide ((4 : Int) ≤ (a1.length : Int)) then
        Option.bind (P_spec_l3Has ([([98, 111, 111, 108] : List Int), ([110, 117, 109] : List Int), ([116, 101, 120, 116] : List Int), ([100, 101, 99] : List Int), ([97, 100, 100, 114] : List Int), ([116, 105, 109, 101] : List Int)] : List (List Int)) (cut a1 4 (a1.length : Int))) fun (y4 : Bool) =>
        bif !(y4) then
          Option.bind (P_spec_l11Head (cut a1 4 (a1.length : Int)) ([114, 101, 102, 32] : List Int)) fun (y5 : Bool) =>
          bif y5 then
            bif true && decide ((4 : Int) ≤ ((cut a1 4 (a1.length : Int)).length : Int)) then
              Option.bind (P_spec_GoodName (cut (cut a1 4 (a1.length : Int)) 4 ((cut a1 4 (a1.length : Int)).length : Int))) fun (y6 : Bool) =>
              bif !(y6) then
                some false
              else
                lenOk a0.2.2.1 (P_spec_FitsKind_0_9 (cut a1 4 (a1.length : Int)) a0 a0.2.2.1)
            else none
          else
            some false
        else
          lenOk a0.2.2.1 (P_spec_FitsKind_0_9 (cut a1 4 (a1.length : Int)) a0 a0.2.2.1)
      else none
noncomputable def c_spec_FitsKind : Ctr := ⟨7, [TyValue, .str], [.bool], fun x => P_spec_FitsKind x.1 x.2.1⟩
def A_spec_FitsKind : List (List Nat × Ann) := [([0, 9], [.keep 0 2, .keep 0 5, .keep 0 41, .keep 0 42, .keep 0 43, .boxd 0 2 TyValue])]
def In_spec_FitsKind : List (List Nat × Nat) := []
noncomputable def cs_spec_FitsKind : List Ctr := [c_spec_GoodValue, c_spec_l11Head, c_spec_l11AtomKind, c_spec_l3Has, c_spec_GoodName]
noncomputable def F_spec_FitsKind (n : Nat) (a0 : DValue) (a1 : (List Int)) : Option Bool := run Tryd.prog A_spec_FitsKind In_spec_FitsKind (conOf cs_spec_FitsKind) Tryd.f7 (Tryd.f7.body.getD .skip) (packT [.bool]) n (argsV [TyValue, .str] (a0, a1, ()))
noncomputable abbrev L_spec_FitsKind_0_9 (n : Nat) (x1 : (List Int)) (x2 : (List DAtom)) (x3 : Int) (x4 : Int) (x5 : DValue) : Option Bool := lam Tryd.prog A_spec_FitsKind In_spec_FitsKind (conOf cs_spec_FitsKind) Tryd.f7 (Tryd.f7.body.getD .skip) (packT [.bool]) n [0, 9] [.ptr 0 2 0, .d .str x1, .d (.list TyAtom) x2, .d I64 x3, .d I64 x4, .agg (explode TyValue x5)]
theorem F_spec_FitsKind_eq (n : Nat) (a0 : DValue) (a1 : (List Int)) : F_spec_FitsKind n a0 a1 =
    Option.bind (P_spec_GoodValue a0) fun (y1 : Bool) =>
    bif !(y1) then
      some false
    else
      Option.bind (P_spec_l11Head a1 ([115, 101, 116, 32] : List Int)) fun (y2 : Bool) =>
      bif !(y2) then
        bif decide (a0.1 = 1) then
          Option.bind (P_spec_l11AtomKind a0.2.1) fun (y3 : (List Int)) =>
          some (decide (y3 = a1))
        else
          some false
      else
        bif true && decide ((4 : Int) ≤ (a1.length : Int)) then
          Option.bind (P_spec_l3Has ([([98, 111, 111, 108] : List Int), ([110, 117, 109] : List Int), ([116, 101, 120, 116] : List Int), ([100, 101, 99] : List Int), ([97, 100, 100, 114] : List Int), ([116, 105, 109, 101] : List Int)] : List (List Int)) (cut a1 4 (a1.length : Int))) fun (y4 : Bool) =>
          bif !(y4) then
            Option.bind (P_spec_l11Head (cut a1 4 (a1.length : Int)) ([114, 101, 102, 32] : List Int)) fun (y5 : Bool) =>
            bif y5 then
              bif true && decide ((4 : Int) ≤ ((cut a1 4 (a1.length : Int)).length : Int)) then
                Option.bind (P_spec_GoodName (cut (cut a1 4 (a1.length : Int)) 4 ((cut a1 4 (a1.length : Int)).length : Int))) fun (y6 : Bool) =>
                bif !(y6) then
                  some false
                else
                  L_spec_FitsKind_0_9 n (cut a1 4 (a1.length : Int)) a0.2.2.1 (a0.2.2.1.length : Int) 0 a0
              else none
            else
              some false
          else
            L_spec_FitsKind_0_9 n (cut a1 4 (a1.length : Int)) a0.2.2.1 (a0.2.2.1.length : Int) 0 a0
        else none := by kernel_rfl
theorem L_spec_FitsKind_0_9_eq (n : Nat) (x1 : (List Int)) (x2 : (List DAtom)) (x3 : Int) (x4 : Int) (x5 : DValue) : L_spec_FitsKind_0_9 (n + 1) x1 x2 x3 x4 x5 =
    bif decide (x4 < x3) then
      bif inB x4 x2.length then
        Option.bind (P_spec_l11AtomKind (rd x2 x4 (Ty.dflt TyAtom))) fun (y7 : (List Int)) =>
        bif !decide (y7 = x1) then
          some false
        else
          L_spec_FitsKind_0_9 n x1 x2 x3 (IntKind.wrap .i64 (x4 + 1)) x5
      else none
    else
      some (decide (x5.1 = 2)) := by kernel_rfl
theorem S_spec_FitsKind_0_9 {x1 : (List Int)} {x2 : (List DAtom)} {x5 : DValue} (hl : x2.length ≤ maxLen) : ∀ (rest : List DAtom) (k : Nat) (r : Bool), rest = x2.drop k → P_spec_FitsKind_0_9 x1 x5 rest = some r → Ev (fun n => L_spec_FitsKind_0_9 n x1 x2 (x2.length : Int) (k : Int) x5) r := by
  intro rest
  induction rest with
  | nil =>
    intro k r hr h
    have hk := drop_nil hr
    rw [P_spec_FitsKind_0_9] at h
    refine Ev.step ?_ (fun n => L_spec_FitsKind_0_9_eq n x1 x2 (x2.length : Int) (k : Int) x5)
    rw [show decide ((k : Int) < (x2.length : Int)) = false from decide_eq_false (by omega)]
    exact Ev.neg rfl (Ev.ofSome h)
  | cons e rest ih =>
    intro k r hr h
    obtain ⟨hk, hx, hr2⟩ := drop_cons (d := (Ty.dflt TyAtom)) hr
    have hw := wrap_succ hl hk
    have ih2 : ∀ (r : Bool), P_spec_FitsKind_0_9 x1 x5 rest = some r → Ev (fun n => L_spec_FitsKind_0_9 n x1 x2 (x2.length : Int) (IntKind.wrap .i64 ((k : Int) + 1)) x5) r := by
      intro r h; rw [hw]; exact ih (k + 1) r hr2 h
    rw [P_spec_FitsKind_0_9] at h
    refine Ev.step ?_ (fun n => L_spec_FitsKind_0_9_eq n x1 x2 (x2.length : Int) (k : Int) x5)
    rw [show decide ((k : Int) < (x2.length : Int)) = true from decide_eq_true (by omega), inB_nat2 hk, hx]
    exact Ev.pos rfl (Ev.pos rfl (Ev.ofBind h fun y7 h => (Ev.ofBif h (fun h => (Ev.ofSome h)) (fun h => (ih2  _ h)))))
theorem S_spec_FitsKind (a0 : DValue) (a1 : (List Int)) {r : Bool} (h : P_spec_FitsKind a0 a1 = some r) : Ev (fun n => F_spec_FitsKind n a0 a1) r := by
  rw [P_spec_FitsKind] at h
  refine Ev.of_eq ?_ (fun n => F_spec_FitsKind_eq n a0 a1)
  exact (Ev.ofBind h fun y1 h => (Ev.ofBif h (fun h => (Ev.ofSome h)) (fun h => (Ev.ofBind h fun y2 h => (Ev.ofBif h (fun h => (Ev.ofBif h (fun h => (Ev.ofBind h fun y3 h => (Ev.ofSome h))) (fun h => (Ev.ofSome h)))) (fun h => (Ev.ofBif h (fun h => (Ev.ofBind h fun y4 h => (Ev.ofBif h (fun h => (Ev.ofBind h fun y5 h => (Ev.ofBif h (fun h => (Ev.ofBif h (fun h => (Ev.ofBind h fun y6 h => (Ev.ofBif h (fun h => (Ev.ofSome h)) (fun h => (Ev.ofLen h fun hl h => S_spec_FitsKind_0_9 hl _ (0 : Nat) _ rfl h))))) (fun h => (Ev.ofNone h)))) (fun h => (Ev.ofSome h))))) (fun h => (Ev.ofLen h fun hl h => S_spec_FitsKind_0_9 hl _ (0 : Nat) _ rfl h))))) (fun h => (Ev.ofNone h)))))))))
theorem hcs_spec_FitsKind : ∀ x ∈ cs_spec_FitsKind, CtrOk Tryd.prog x := (conOf_cons ok_spec_GoodValue (conOf_cons ok_spec_l11Head (conOf_cons ok_spec_l11AtomKind (conOf_cons ok_spec_l3Has (conOf_cons ok_spec_GoodName conOf_nil)))))
theorem ok_spec_FitsKind : CtrOk Tryd.prog (c_spec_FitsKind) := by
  refine ctr_of_run (c := c_spec_FitsKind) (by kernel_rfl) (by kernel_rfl : Tryd.prog.funcs[7]? = some Tryd.f7) (code := Tryd.f7.body.getD .skip) (by kernel_rfl) (by kernel_rfl) (by kernel_rfl) (A := A_spec_FitsKind) (I := In_spec_FitsKind) (hcs_spec_FitsKind) ?_
  rintro ⟨a0, a1, u⟩ y hy
  exact (S_spec_FitsKind a0 a1 hy).get

/-! ## stringslite.HasPrefix (105) -/
noncomputable def P_stringslite_HasPrefix (a0 : (List Int)) (a1 : (List Int)) : Option Bool :=
  bif decide ((a1.length : Int) ≤ (a0.length : Int)) then
    bif decide ((0 : Int) ≤ (a1.length : Int)) && decide ((a1.length : Int) ≤ (a0.length : Int)) then
      some (decide (cut a0 0 (a1.length : Int) = a1))
    else none
  else
    some false
noncomputable def c_stringslite_HasPrefix : Ctr := ⟨105, [.str, .str], [.bool], fun x => P_stringslite_HasPrefix x.1 x.2.1⟩
def A_stringslite_HasPrefix : List (List Nat × Ann) := []
def In_stringslite_HasPrefix : List (List Nat × Nat) := []
noncomputable def cs_stringslite_HasPrefix : List Ctr := []
noncomputable def F_stringslite_HasPrefix (n : Nat) (a0 : (List Int)) (a1 : (List Int)) : Option Bool := run Tryd.prog A_stringslite_HasPrefix In_stringslite_HasPrefix (conOf cs_stringslite_HasPrefix) Tryd.f105 (Tryd.f105.body.getD .skip) (packT [.bool]) n (argsV [.str, .str] (a0, a1, ()))
theorem F_stringslite_HasPrefix_eq (n : Nat) (a0 : (List Int)) (a1 : (List Int)) : F_stringslite_HasPrefix n a0 a1 =
    bif decide ((a1.length : Int) ≤ (a0.length : Int)) then
      bif decide ((0 : Int) ≤ (a1.length : Int)) && decide ((a1.length : Int) ≤ (a0.length : Int)) then
        some (decide (cut a0 0 (a1.length : Int) = a1))
      else none
    else
      some false := by kernel_rfl
theorem S_stringslite_HasPrefix (a0 : (List Int)) (a1 : (List Int)) {r : Bool} (h : P_stringslite_HasPrefix a0 a1 = some r) : Ev (fun n => F_stringslite_HasPrefix n a0 a1) r := by
  rw [P_stringslite_HasPrefix] at h
  refine Ev.of_eq ?_ (fun n => F_stringslite_HasPrefix_eq n a0 a1)
  exact (Ev.ofBif h (fun h => (Ev.ofBif h (fun h => (Ev.ofSome h)) (fun h => (Ev.ofNone h)))) (fun h => (Ev.ofSome h)))
theorem hcs_stringslite_HasPrefix : ∀ x ∈ cs_stringslite_HasPrefix, CtrOk Tryd.prog x := conOf_nil
theorem ok_stringslite_HasPrefix : CtrOk Tryd.prog (c_stringslite_HasPrefix) := by
  refine ctr_of_run (c := c_stringslite_HasPrefix) (by kernel_rfl) (by kernel_rfl : Tryd.prog.funcs[105]? = some Tryd.f105) (code := Tryd.f105.body.getD .skip) (by kernel_rfl) (by kernel_rfl) (by kernel_rfl) (A := A_stringslite_HasPrefix) (I := In_stringslite_HasPrefix) (hcs_stringslite_HasPrefix) ?_
  rintro ⟨a0, a1, u⟩ y hy
  exact (S_stringslite_HasPrefix a0 a1 hy).get

/-! ## stringslite.CutPrefix (69) -/
noncomputable def P_stringslite_CutPrefix (a0 : (List Int)) (a1 : (List Int)) : Option ((List Int) × Bool) :=
  Option.bind (P_stringslite_HasPrefix a0 a1) fun (y1 : Bool) =>
  bif !(y1) then
    some (a0, false)
  else
    bif decide ((0 : Int) ≤ (a1.length : Int)) && decide ((a1.length : Int) ≤ (a0.length : Int)) then
      some (cut a0 (a1.length : Int) (a0.length : Int), true)
    else none
noncomputable def c_stringslite_CutPrefix : Ctr := ⟨69, [.str, .str], [.str, .bool], fun x => P_stringslite_CutPrefix x.1 x.2.1⟩
def A_stringslite_CutPrefix : List (List Nat × Ann) := []
def In_stringslite_CutPrefix : List (List Nat × Nat) := []
noncomputable def cs_stringslite_CutPrefix : List Ctr := [c_stringslite_HasPrefix]
noncomputable def F_stringslite_CutPrefix (n : Nat) (a0 : (List Int)) (a1 : (List Int)) : Option ((List Int) × Bool) := run Tryd.prog A_stringslite_CutPrefix In_stringslite_CutPrefix (conOf cs_stringslite_CutPrefix) Tryd.f69 (Tryd.f69.body.getD .skip) (packT [.str, .bool]) n (argsV [.str, .str] (a0, a1, ()))
theorem F_stringslite_CutPrefix_eq (n : Nat) (a0 : (List Int)) (a1 : (List Int)) : F_stringslite_CutPrefix n a0 a1 =
    Option.bind (P_stringslite_HasPrefix a0 a1) fun (y1 : Bool) =>
    bif !(y1) then
      some (a0, false)
    else
      bif decide ((0 : Int) ≤ (a1.length : Int)) && decide ((a1.length : Int) ≤ (a0.length : Int)) then
        some (cut a0 (a1.length : Int) (a0.length : Int), true)
      else none := by kernel_rfl
theorem S_stringslite_CutPrefix (a0 : (List Int)) (a1 : (List Int)) {r : ((List Int) × Bool)} (h : P_stringslite_CutPrefix a0 a1 = some r) : Ev (fun n => F_stringslite_CutPrefix n a0 a1) r := by
  rw [P_stringslite_CutPrefix] at h
  refine Ev.of_eq ?_ (fun n => F_stringslite_CutPrefix_eq n a0 a1)
  exact (Ev.ofBind h fun y1 h => (Ev.ofBif h (fun h => (Ev.ofSome h)) (fun h => (Ev.ofBif h (fun h => (Ev.ofSome h)) (fun h => (Ev.ofNone h))))))
theorem hcs_stringslite_CutPrefix : ∀ x ∈ cs_stringslite_CutPrefix, CtrOk Tryd.prog x := (conOf_cons ok_stringslite_HasPrefix conOf_nil)
theorem ok_stringslite_CutPrefix : CtrOk Tryd.prog (c_stringslite_CutPrefix) := by
  refine ctr_of_run (c := c_stringslite_CutPrefix) (by kernel_rfl) (by kernel_rfl : Tryd.prog.funcs[69]? = some Tryd.f69) (code := Tryd.f69.body.getD .skip) (by kernel_rfl) (by kernel_rfl) (by kernel_rfl) (A := A_stringslite_CutPrefix) (I := In_stringslite_CutPrefix) (hcs_stringslite_CutPrefix) ?_
  rintro ⟨a0, a1, u⟩ y hy
  exact (S_stringslite_CutPrefix a0 a1 hy).get

/-! ## strings.CutPrefix (32) -/
noncomputable def P_strings_CutPrefix (a0 : (List Int)) (a1 : (List Int)) : Option ((List Int) × Bool) :=
  Option.bind (P_stringslite_CutPrefix a0 a1) fun (y1 : ((List Int) × Bool)) =>
  some (y1.1, y1.2)
noncomputable def c_strings_CutPrefix : Ctr := ⟨32, [.str, .str], [.str, .bool], fun x => P_strings_CutPrefix x.1 x.2.1⟩
def A_strings_CutPrefix : List (List Nat × Ann) := []
def In_strings_CutPrefix : List (List Nat × Nat) := []
noncomputable def cs_strings_CutPrefix : List Ctr := [c_stringslite_CutPrefix]
noncomputable def F_strings_CutPrefix (n : Nat) (a0 : (List Int)) (a1 : (List Int)) : Option ((List Int) × Bool) := run Tryd.prog A_strings_CutPrefix In_strings_CutPrefix (conOf cs_strings_CutPrefix) Tryd.f32 (Tryd.f32.body.getD .skip) (packT [.str, .bool]) n (argsV [.str, .str] (a0, a1, ()))
theorem F_strings_CutPrefix_eq (n : Nat) (a0 : (List Int)) (a1 : (List Int)) : F_strings_CutPrefix n a0 a1 =
    Option.bind (P_stringslite_CutPrefix a0 a1) fun (y1 : ((List Int) × Bool)) =>
    some (y1.1, y1.2) := by kernel_rfl
theorem S_strings_CutPrefix (a0 : (List Int)) (a1 : (List Int)) {r : ((List Int) × Bool)} (h : P_strings_CutPrefix a0 a1 = some r) : Ev (fun n => F_strings_CutPrefix n a0 a1) r := by
  rw [P_strings_CutPrefix] at h
  refine Ev.of_eq ?_ (fun n => F_strings_CutPrefix_eq n a0 a1)
  exact (Ev.ofBind h fun y1 h => (Ev.ofSome h))
theorem hcs_strings_CutPrefix : ∀ x ∈ cs_strings_CutPrefix, CtrOk Tryd.prog x := (conOf_cons ok_stringslite_CutPrefix conOf_nil)
theorem ok_strings_CutPrefix : CtrOk Tryd.prog (c_strings_CutPrefix) := by
  refine ctr_of_run (c := c_strings_CutPrefix) (by kernel_rfl) (by kernel_rfl : Tryd.prog.funcs[32]? = some Tryd.f32) (code := Tryd.f32.body.getD .skip) (by kernel_rfl) (by kernel_rfl) (by kernel_rfl) (A := A_strings_CutPrefix) (I := In_strings_CutPrefix) (hcs_strings_CutPrefix) ?_
  rintro ⟨a0, a1, u⟩ y hy
  exact (S_strings_CutPrefix a0 a1 hy).get

/-! ## impl.yprinted (106) -/
noncomputable def P_impl_yprinted_0_4 : List Int → Option Bool
  | [] =>
      some true
  | e :: rest =>
      bif decide (e < 32) then
        some false
      else
        bif decide ((126 : Int) < e) then
          some false
        else
          P_impl_yprinted_0_4 rest
noncomputable def P_impl_yprinted (a0 : (List Int)) (a1 : Int) (a2 : Int) : Option Bool :=
  bif decide ((a0.length : Int) < a1) then
    some false
  else
    bif decide (a2 < (a0.length : Int)) then
      some false
    else
      lenOk a0 (P_impl_yprinted_0_4 a0)
noncomputable def c_impl_yprinted : Ctr := ⟨106, [.str, I64, I64], [.bool], fun x => P_impl_yprinted x.1 x.2.1 x.2.2.1⟩
def A_impl_yprinted : List (List Nat × Ann) := [([0, 4], [.keep 0 0, .keep 0 19, .keep 0 20])]
def In_impl_yprinted : List (List Nat × Nat) := []
noncomputable def cs_impl_yprinted : List Ctr := []
noncomputable def F_impl_yprinted (n : Nat) (a0 : (List Int)) (a1 : Int) (a2 : Int) : Option Bool := run Tryd.prog A_impl_yprinted In_impl_yprinted (conOf cs_impl_yprinted) Tryd.f106 (Tryd.f106.body.getD .skip) (packT [.bool]) n (argsV [.str, I64, I64] (a0, a1, a2, ()))
noncomputable abbrev L_impl_yprinted_0_4 (n : Nat) (x1 : (List Int)) (x2 : Int) (x3 : Int) : Option Bool := lam Tryd.prog A_impl_yprinted In_impl_yprinted (conOf cs_impl_yprinted) Tryd.f106 (Tryd.f106.body.getD .skip) (packT [.bool]) n [0, 4] [.d .str x1, .d I64 x2, .d I64 x3]
theorem F_impl_yprinted_eq (n : Nat) (a0 : (List Int)) (a1 : Int) (a2 : Int) : F_impl_yprinted n a0 a1 a2 =
    bif decide ((a0.length : Int) < a1) then
      some false
    else
      bif decide (a2 < (a0.length : Int)) then
        some false
      else
        L_impl_yprinted_0_4 n a0 (a0.length : Int) 0 := by kernel_rfl
theorem L_impl_yprinted_0_4_eq (n : Nat) (x1 : (List Int)) (x2 : Int) (x3 : Int) : L_impl_yprinted_0_4 (n + 1) x1 x2 x3 =
    bif decide (x3 < x2) then
      bif inB x3 x1.length then
        bif decide (rd x1 x3 0 < 32) then
          some false
        else
          bif inB x3 x1.length then
            bif decide ((126 : Int) < rd x1 x3 0) then
              some false
            else
              L_impl_yprinted_0_4 n x1 x2 (IntKind.wrap .i64 (x3 + 1))
          else none
      else none
    else
      some true := by kernel_rfl
theorem S_impl_yprinted_0_4 {x1 : (List Int)} (hl : x1.length ≤ maxLen) : ∀ (rest : List Int) (k : Nat) (r : Bool), rest = x1.drop k → P_impl_yprinted_0_4 rest = some r → Ev (fun n => L_impl_yprinted_0_4 n x1 (x1.length : Int) (k : Int)) r := by
  intro rest
  induction rest with
  | nil =>
    intro k r hr h
    have hk := drop_nil hr
    rw [P_impl_yprinted_0_4] at h
    refine Ev.step ?_ (fun n => L_impl_yprinted_0_4_eq n x1 (x1.length : Int) (k : Int))
    rw [show decide ((k : Int) < (x1.length : Int)) = false from decide_eq_false (by omega)]
    exact Ev.neg rfl (Ev.ofSome h)
  | cons e rest ih =>
    intro k r hr h
    obtain ⟨hk, hx, hr2⟩ := drop_cons (d := 0) hr
    have hw := wrap_succ hl hk
    have ih2 : ∀ (r : Bool), P_impl_yprinted_0_4 rest = some r → Ev (fun n => L_impl_yprinted_0_4 n x1 (x1.length : Int) (IntKind.wrap .i64 ((k : Int) + 1))) r := by
      intro r h; rw [hw]; exact ih (k + 1) r hr2 h
    rw [P_impl_yprinted_0_4] at h
    refine Ev.step ?_ (fun n => L_impl_yprinted_0_4_eq n x1 (x1.length : Int) (k : Int))
    rw [show decide ((k : Int) < (x1.length : Int)) = true from decide_eq_true (by omega), inB_nat2 hk, hx]
    exact Ev.pos rfl (Ev.pos rfl (Ev.ofBif h (fun h => (Ev.ofSome h)) (fun h => (Ev.pos rfl (Ev.ofBif h (fun h => (Ev.ofSome h)) (fun h => (ih2  _ h)))))))
theorem S_impl_yprinted (a0 : (List Int)) (a1 : Int) (a2 : Int) {r : Bool} (h : P_impl_yprinted a0 a1 a2 = some r) : Ev (fun n => F_impl_yprinted n a0 a1 a2) r := by
  rw [P_impl_yprinted] at h
  refine Ev.of_eq ?_ (fun n => F_impl_yprinted_eq n a0 a1 a2)
  exact (Ev.ofBif h (fun h => (Ev.ofSome h)) (fun h => (Ev.ofBif h (fun h => (Ev.ofSome h)) (fun h => (Ev.ofLen h fun hl h => S_impl_yprinted_0_4 hl _ (0 : Nat) _ rfl h)))))
theorem hcs_impl_yprinted : ∀ x ∈ cs_impl_yprinted, CtrOk Tryd.prog x := conOf_nil
theorem ok_impl_yprinted : CtrOk Tryd.prog (c_impl_yprinted) := by
  refine ctr_of_run (c := c_impl_yprinted) (by kernel_rfl) (by kernel_rfl : Tryd.prog.funcs[106]? = some Tryd.f106) (code := Tryd.f106.body.getD .skip) (by kernel_rfl) (by kernel_rfl) (by kernel_rfl) (A := A_impl_yprinted) (I := In_impl_yprinted) (hcs_impl_yprinted) ?_
  rintro ⟨a0, a1, a2, u⟩ y hy
  exact (S_impl_yprinted a0 a1 a2 hy).get

/-! ## impl.ydigit (76) -/
def T_impl_ydigit (a0 : Int) : Bool :=
  bif decide ((48 : Int) ≤ a0) then
    decide (a0 ≤ 57)
  else
    false
noncomputable def c_impl_ydigit : Ctr := ⟨76, [U8], [.bool], fun x => some (T_impl_ydigit x.1)⟩
def A_impl_ydigit : List (List Nat × Ann) := []
def In_impl_ydigit : List (List Nat × Nat) := []
noncomputable def cs_impl_ydigit : List Ctr := []
noncomputable def F_impl_ydigit (n : Nat) (a0 : Int) : Option Bool := run Tryd.prog A_impl_ydigit In_impl_ydigit (conOf cs_impl_ydigit) Tryd.f76 (Tryd.f76.body.getD .skip) (packT [.bool]) n (argsV [U8] (a0, ()))
theorem F_impl_ydigit_eq (n : Nat) (a0 : Int) : F_impl_ydigit n a0 =
    bif decide ((48 : Int) ≤ a0) then
      some (decide (a0 ≤ 57))
    else
      some false := by kernel_rfl
theorem S_impl_ydigit (n : Nat) (a0 : Int) : F_impl_ydigit n a0 = some (T_impl_ydigit a0) := (F_impl_ydigit_eq n a0).trans (cond_some rfl rfl)
theorem hcs_impl_ydigit : ∀ x ∈ cs_impl_ydigit, CtrOk Tryd.prog x := conOf_nil
theorem ok_impl_ydigit : CtrOk Tryd.prog (c_impl_ydigit) := by
  refine ctr_of_run (c := c_impl_ydigit) (by kernel_rfl) (by kernel_rfl : Tryd.prog.funcs[76]? = some Tryd.f76) (code := Tryd.f76.body.getD .skip) (by kernel_rfl) (by kernel_rfl) (by kernel_rfl) (A := A_impl_ydigit) (I := In_impl_ydigit) (hcs_impl_ydigit) ?_
  rintro ⟨a0, u⟩ y hy
  exact ⟨0, (S_impl_ydigit 0 a0).trans hy⟩

/-! ## impl.yletter (109) -/
def T_impl_yletter (a0 : Int) : Bool :=
  bif decide ((97 : Int) ≤ a0) then
    bif decide (a0 ≤ 122) then
      true
    else
      bif decide ((65 : Int) ≤ a0) then
        decide (a0 ≤ 90)
      else
        false
  else
    bif decide ((65 : Int) ≤ a0) then
      decide (a0 ≤ 90)
    else
      false
noncomputable def c_impl_yletter : Ctr := ⟨109, [U8], [.bool], fun x => some (T_impl_yletter x.1)⟩
def A_impl_yletter : List (List Nat × Ann) := []
def In_impl_yletter : List (List Nat × Nat) := []
noncomputable def cs_impl_yletter : List Ctr := []
noncomputable def F_impl_yletter (n : Nat) (a0 : Int) : Option Bool := run Tryd.prog A_impl_yletter In_impl_yletter (conOf cs_impl_yletter) Tryd.f109 (Tryd.f109.body.getD .skip) (packT [.bool]) n (argsV [U8] (a0, ()))
theorem F_impl_yletter_eq (n : Nat) (a0 : Int) : F_impl_yletter n a0 =
    bif decide ((97 : Int) ≤ a0) then
      bif decide (a0 ≤ 122) then
        some true
      else
        bif decide ((65 : Int) ≤ a0) then
          some (decide (a0 ≤ 90))
        else
          some false
    else
      bif decide ((65 : Int) ≤ a0) then
        some (decide (a0 ≤ 90))
      else
        some false := by kernel_rfl
theorem S_impl_yletter (n : Nat) (a0 : Int) : F_impl_yletter n a0 = some (T_impl_yletter a0) := (F_impl_yletter_eq n a0).trans (cond_some (cond_some rfl (cond_some rfl rfl)) (cond_some rfl rfl))
theorem hcs_impl_yletter : ∀ x ∈ cs_impl_yletter, CtrOk Tryd.prog x := conOf_nil
theorem ok_impl_yletter : CtrOk Tryd.prog (c_impl_yletter) := by
  refine ctr_of_run (c := c_impl_yletter) (by kernel_rfl) (by kernel_rfl : Tryd.prog.funcs[109]? = some Tryd.f109) (code := Tryd.f109.body.getD .skip) (by kernel_rfl) (by kernel_rfl) (by kernel_rfl) (A := A_impl_yletter) (I := In_impl_yletter) (hcs_impl_yletter) ?_
  rintro ⟨a0, u⟩ y hy
  exact ⟨0, (S_impl_yletter 0 a0).trans hy⟩

/-! ## impl.ywordByte (77) -/
def T_impl_ywordByte (a0 : Int) : Bool :=
  bif T_impl_yletter a0 then
    true
  else
    bif T_impl_ydigit a0 then
      true
    else
      decide (a0 = 95)
noncomputable def c_impl_ywordByte : Ctr := ⟨77, [U8], [.bool], fun x => some (T_impl_ywordByte x.1)⟩
def A_impl_ywordByte : List (List Nat × Ann) := []
def In_impl_ywordByte : List (List Nat × Nat) := []
noncomputable def cs_impl_ywordByte : List Ctr := [c_impl_yletter, c_impl_ydigit]
noncomputable def F_impl_ywordByte (n : Nat) (a0 : Int) : Option Bool := run Tryd.prog A_impl_ywordByte In_impl_ywordByte (conOf cs_impl_ywordByte) Tryd.f77 (Tryd.f77.body.getD .skip) (packT [.bool]) n (argsV [U8] (a0, ()))
theorem F_impl_ywordByte_eq (n : Nat) (a0 : Int) : F_impl_ywordByte n a0 =
    bif T_impl_yletter a0 then
      some true
    else
      bif T_impl_ydigit a0 then
        some true
      else
        some (decide (a0 = 95)) := by kernel_rfl
theorem S_impl_ywordByte (n : Nat) (a0 : Int) : F_impl_ywordByte n a0 = some (T_impl_ywordByte a0) := (F_impl_ywordByte_eq n a0).trans (cond_some rfl (cond_some rfl rfl))
theorem hcs_impl_ywordByte : ∀ x ∈ cs_impl_ywordByte, CtrOk Tryd.prog x := (conOf_cons ok_impl_yletter (conOf_cons ok_impl_ydigit conOf_nil))
theorem ok_impl_ywordByte : CtrOk Tryd.prog (c_impl_ywordByte) := by
  refine ctr_of_run (c := c_impl_ywordByte) (by kernel_rfl) (by kernel_rfl : Tryd.prog.funcs[77]? = some Tryd.f77) (code := Tryd.f77.body.getD .skip) (by kernel_rfl) (by kernel_rfl) (by kernel_rfl) (A := A_impl_ywordByte) (I := In_impl_ywordByte) (hcs_impl_ywordByte) ?_
  rintro ⟨a0, u⟩ y hy
  exact ⟨0, (S_impl_ywordByte 0 a0).trans hy⟩

/-! ## impl.GoodName (34) -/
noncomputable def P_impl_GoodName_0_4 : List Int → Option Bool
  | [] =>
      some true
  | e :: rest =>
      bif !(T_impl_ywordByte (e)) then
        some false
      else
        P_impl_GoodName_0_4 rest
noncomputable def P_impl_GoodName (a0 : (List Int)) : Option Bool :=
  bif decide (a0 = ([] : List Int)) then
    some false
  else
    bif decide ((30 : Int) < (a0.length : Int)) then
      some false
    else
      bif inB 0 a0.length then
        bif T_impl_ydigit (rd a0 0 0) then
          some false
        else
          lenOk a0 (P_impl_GoodName_0_4 a0)
      else none
noncomputable def c_impl_GoodName : Ctr := ⟨34, [.str], [.bool], fun x => P_impl_GoodName x.1⟩
def A_impl_GoodName : List (List Nat × Ann) := [([0, 4], [.keep 0 0, .keep 0 17, .keep 0 18])]
def In_impl_GoodName : List (List Nat × Nat) := []
noncomputable def cs_impl_GoodName : List Ctr := [c_impl_ydigit, c_impl_ywordByte]
noncomputable def F_impl_GoodName (n : Nat) (a0 : (List Int)) : Option Bool := run Tryd.prog A_impl_GoodName In_impl_GoodName (conOf cs_impl_GoodName) Tryd.f34 (Tryd.f34.body.getD .skip) (packT [.bool]) n (argsV [.str] (a0, ()))
noncomputable abbrev L_impl_GoodName_0_4 (n : Nat) (x1 : (List Int)) (x2 : Int) (x3 : Int) : Option Bool := lam Tryd.prog A_impl_GoodName In_impl_GoodName (conOf cs_impl_GoodName) Tryd.f34 (Tryd.f34.body.getD .skip) (packT [.bool]) n [0, 4] [.d .str x1, .d I64 x2, .d I64 x3]
theorem F_impl_GoodName_eq (n : Nat) (a0 : (List Int)) : F_impl_GoodName n a0 =
    bif decide (a0 = ([] : List Int)) then
      some false
    else
      bif decide ((30 : Int) < (a0.length : Int)) then
        some false
      else
        bif inB 0 a0.length then
          bif T_impl_ydigit (rd a0 0 0) then
            some false
          else
            L_impl_GoodName_0_4 n a0 (a0.length : Int) 0
        else none := by kernel_rfl
theorem L_impl_GoodName_0_4_eq (n : Nat) (x1 : (List Int)) (x2 : Int) (x3 : Int) : L_impl_GoodName_0_4 (n + 1) x1 x2 x3 =
    bif decide (x3 < x2) then
      bif inB x3 x1.length then
        bif !(T_impl_ywordByte (rd x1 x3 0)) then
          some false
        else
          L_impl_GoodName_0_4 n x1 x2 (IntKind.wrap .i64 (x3 + 1))
      else none
    else
      some true := by kernel_rfl
theorem S_impl_GoodName_0_4 {x1 : (List Int)} (hl : x1.length ≤ maxLen) : ∀ (rest : List Int) (k : Nat) (r : Bool), rest = x1.drop k → P_impl_GoodName_0_4 rest = some r → Ev (fun n => L_impl_GoodName_0_4 n x1 (x1.length : Int) (k : Int)) r := by
  intro rest
  induction rest with
  | nil =>
    intro k r hr h
    have hk := drop_nil hr
    rw [P_impl_GoodName_0_4] at h
    refine Ev.step ?_ (fun n => L_impl_GoodName_0_4_eq n x1 (x1.length : Int) (k : Int))
    rw [show decide ((k : Int) < (x1.length : Int)) = false from decide_eq_false (by omega)]
    exact Ev.neg rfl (Ev.ofSome h)
  | cons e rest ih =>
    intro k r hr h
    obtain ⟨hk, hx, hr2⟩ := drop_cons (d := 0) hr
    have hw := wrap_succ hl hk
    have ih2 : ∀ (r : Bool), P_impl_GoodName_0_4 rest = some r → Ev (fun n => L_impl_GoodName_0_4 n x1 (x1.length : Int) (IntKind.wrap .i64 ((k : Int) + 1))) r := by
      intro r h; rw [hw]; exact ih (k + 1) r hr2 h
    rw [P_impl_GoodName_0_4] at h
    refine Ev.step ?_ (fun n => L_impl_GoodName_0_4_eq n x1 (x1.length : Int) (k : Int))
    rw [show decide ((k : Int) < (x1.length : Int)) = true from decide_eq_true (by omega), inB_nat2 hk, hx]
    exact Ev.pos rfl (Ev.pos rfl (Ev.ofBif h (fun h => (Ev.ofSome h)) (fun h => (ih2  _ h))))
theorem S_impl_GoodName (a0 : (List Int)) {r : Bool} (h : P_impl_GoodName a0 = some r) : Ev (fun n => F_impl_GoodName n a0) r := by
  rw [P_impl_GoodName] at h
  refine Ev.of_eq ?_ (fun n => F_impl_GoodName_eq n a0)
  exact (Ev.ofBif h (fun h => (Ev.ofSome h)) (fun h => (Ev.ofBif h (fun h => (Ev.ofSome h)) (fun h => (Ev.ofBif h (fun h => (Ev.ofBif h (fun h => (Ev.ofSome h)) (fun h => (Ev.ofLen h fun hl h => S_impl_GoodName_0_4 hl _ (0 : Nat) _ rfl h)))) (fun h => (Ev.ofNone h)))))))
theorem hcs_impl_GoodName : ∀ x ∈ cs_impl_GoodName, CtrOk Tryd.prog x := (conOf_cons ok_impl_ydigit (conOf_cons ok_impl_ywordByte conOf_nil))
theorem ok_impl_GoodName : CtrOk Tryd.prog (c_impl_GoodName) := by
  refine ctr_of_run (c := c_impl_GoodName) (by kernel_rfl) (by kernel_rfl : Tryd.prog.funcs[34]? = some Tryd.f34) (code := Tryd.f34.body.getD .skip) (by kernel_rfl) (by kernel_rfl) (by kernel_rfl) (A := A_impl_GoodName) (I := In_impl_GoodName) (hcs_impl_GoodName) ?_
  rintro ⟨a0, u⟩ y hy
  exact (S_impl_GoodName a0 hy).get

/-! ## impl.GoodAtom (70) -/
noncomputable def P_impl_GoodAtom_1_7 (x1 : Bool) (x2 : Int) (x3 : Bool) (x4 : DAtom) : Option Bool :=
  bif x3 then
    some x1
  else
    bif decide (x2 = 3) then
      bif decide (x4.2.1 = 0) then
        bif decide (x4.2.2.2 = ([] : List Int)) then
          Option.bind (P_impl_yprinted x4.2.2.1 0 200) fun (y1 : Bool) =>
          some y1
        else
          some false
      else
        some false
    else
      bif decide (x2 = 4) then
        bif decide (x4.2.1 = 0) then
          Option.bind (P_impl_GoodName x4.2.2.2) fun (y2 : Bool) =>
          bif y2 then
            Option.bind (P_impl_yprinted x4.2.2.1 1 200) fun (y3 : Bool) =>
            some y3
          else
            some false
        else
          some false
      else
        bif decide (x2 = 6) then
          bif !(x1) then
            some false
          else
            bif decide (x4.2.1 < 0) then
              some false
            else
              bif decide (Int.tmod x4.2.1 64 ≤ 32) then
                bif decide (IntKind.wrap .i64 (Int.tdiv x4.2.1 64) < 4294967296) then
                  bif decide ((0 : Int) ≤ IntKind.wrap .i64 (32 - (Int.tmod x4.2.1 64))) then
                    bif decide (IntKind.wrap .i64 (1 * 2 ^ (min (Int.toNat (IntKind.wrap .i64 (32 - (Int.tmod x4.2.1 64)))) 64)) = 0) then none else
                    some (decide (Int.tmod (IntKind.wrap .i64 (Int.tdiv x4.2.1 64)) (IntKind.wrap .i64 (1 * 2 ^ (min (Int.toNat (IntKind.wrap .i64 (32 - (Int.tmod x4.2.1 64)))) 64))) = 0))
                  else none
                else
                  some false
              else
                some false
        else
          bif decide (x2 = 7) then
            bif x1 then
              bif decide (((-100000000000) : Int) ≤ x4.2.1) then
                some (decide (x4.2.1 ≤ 100000000000))
              else
                some false
            else
              some false
          else
            some false
noncomputable def P_impl_GoodAtom_1_2 (x1 : Bool) (x2 : DAtom) : Option Bool :=
  bif decide (x2.1 = 1) then
    bif x1 then
      bif decide (x2.2.1 = 0) then
        some true
      else
        some (decide (x2.2.1 = 1))
    else
      some false
  else
    bif decide (x2.1 = 2) then
      P_impl_GoodAtom_1_7 x1 x2.1 (decide (x2.1 = 2)) x2
    else
      P_impl_GoodAtom_1_7 x1 x2.1 (decide (x2.1 = 5)) x2
noncomputable def P_impl_GoodAtom (a0 : DAtom) : Option Bool :=
  bif decide (a0.2.2.1 = ([] : List Int)) then
    P_impl_GoodAtom_1_2 (decide (a0.2.2.2 = ([] : List Int))) a0
  else
    P_impl_GoodAtom_1_2 false a0
noncomputable def c_impl_GoodAtom : Ctr := ⟨70, [TyAtom], [.bool], fun x => P_impl_GoodAtom x.1⟩
def A_impl_GoodAtom : List (List Nat × Ann) := [([1, 2], [.keep 0 1, .keep 0 3, .boxd 0 1 TyAtom]), ([1, 7], [.keep 0 1, .keep 0 3, .keep 0 15, .keep 0 29, .boxd 0 1 TyAtom])]
def In_impl_GoodAtom : List (List Nat × Nat) := []
noncomputable def cs_impl_GoodAtom : List Ctr := [c_impl_yprinted, c_impl_GoodName]
noncomputable def F_impl_GoodAtom (n : Nat) (a0 : DAtom) : Option Bool := run Tryd.prog A_impl_GoodAtom In_impl_GoodAtom (conOf cs_impl_GoodAtom) Tryd.f70 (Tryd.f70.body.getD .skip) (packT [.bool]) n (argsV [TyAtom] (a0, ()))
noncomputable abbrev L_impl_GoodAtom_1_2 (n : Nat) (x1 : Bool) (x2 : DAtom) : Option Bool := lam Tryd.prog A_impl_GoodAtom In_impl_GoodAtom (conOf cs_impl_GoodAtom) Tryd.f70 (Tryd.f70.body.getD .skip) (packT [.bool]) n [1, 2] [.ptr 0 1 0, .d .bool x1, .agg (explode TyAtom x2)]
noncomputable abbrev L_impl_GoodAtom_1_7 (n : Nat) (x1 : Bool) (x2 : Int) (x3 : Bool) (x4 : DAtom) : Option Bool := lam Tryd.prog A_impl_GoodAtom In_impl_GoodAtom (conOf cs_impl_GoodAtom) Tryd.f70 (Tryd.f70.body.getD .skip) (packT [.bool]) n [1, 7] [.ptr 0 1 0, .d .bool x1, .d I64 x2, .d .bool x3, .agg (explode TyAtom x4)]
theorem F_impl_GoodAtom_eq (n : Nat) (a0 : DAtom) : F_impl_GoodAtom n a0 =
    bif decide (a0.2.2.1 = ([] : List Int)) then
      L_impl_GoodAtom_1_2 n (decide (a0.2.2.2 = ([] : List Int))) a0
    else
      L_impl_GoodAtom_1_2 n false a0 := by kernel_rfl
theorem L_impl_GoodAtom_1_2_eq (n : Nat) (x1 : Bool) (x2 : DAtom) : L_impl_GoodAtom_1_2 (n + 1) x1 x2 =
    bif decide (x2.1 = 1) then
      bif x1 then
        bif decide (x2.2.1 = 0) then
          some true
        else
          some (decide (x2.2.1 = 1))
      else
        some false
    else
      bif decide (x2.1 = 2) then
        L_impl_GoodAtom_1_7 n x1 x2.1 (decide (x2.1 = 2)) x2
      else
        L_impl_GoodAtom_1_7 n x1 x2.1 (decide (x2.1 = 5)) x2 := by kernel_rfl
theorem L_impl_GoodAtom_1_7_eq (n : Nat) (x1 : Bool) (x2 : Int) (x3 : Bool) (x4 : DAtom) : L_impl_GoodAtom_1_7 (n + 1) x1 x2 x3 x4 =
    bif x3 then
      some x1
    else
      bif decide (x2 = 3) then
        bif decide (x4.2.1 = 0) then
          bif decide (x4.2.2.2 = ([] : List Int)) then
            Option.bind (P_impl_yprinted x4.2.2.1 0 200) fun (y1 : Bool) =>
            some y1
          else
            some false
        else
          some false
      else
        bif decide (x2 = 4) then
          bif decide (x4.2.1 = 0) then
            Option.bind (P_impl_GoodName x4.2.2.2) fun (y2 : Bool) =>
            bif y2 then
              Option.bind (P_impl_yprinted x4.2.2.1 1 200) fun (y3 : Bool) =>
              some y3
            else
              some false
          else
            some false
        else
          bif decide (x2 = 6) then
            bif !(x1) then
              some false
            else
              bif decide (x4.2.1 < 0) then
                some false
              else
                bif decide (Int.tmod x4.2.1 64 ≤ 32) then
                  bif decide (IntKind.wrap .i64 (Int.tdiv x4.2.1 64) < 4294967296) then
                    bif decide ((0 : Int) ≤ IntKind.wrap .i64 (32 - (Int.tmod x4.2.1 64))) then
                      bif decide (IntKind.wrap .i64 (1 * 2 ^ (min (Int.toNat (IntKind.wrap .i64 (32 - (Int.tmod x4.2.1 64)))) 64)) = 0) then none else
                      some (decide (Int.tmod (IntKind.wrap .i64 (Int.tdiv x4.2.1 64)) (IntKind.wrap .i64 (1 * 2 ^ (min (Int.toNat (IntKind.wrap .i64 (32 - (Int.tmod x4.2.1 64)))) 64))) = 0))
                    else none
                  else
                    some false
                else
                  some false
          else
            bif decide (x2 = 7) then
              bif x1 then
                bif decide (((-100000000000) : Int) ≤ x4.2.1) then
                  some (decide (x4.2.1 ≤ 100000000000))
                else
                  some false
              else
                some false
            else
              some false := by kernel_rfl
theorem S_impl_GoodAtom_1_7 {x1 : Bool} {x2 : Int} {x3 : Bool} {x4 : DAtom} {r : Bool} (h : P_impl_GoodAtom_1_7 x1 x2 x3 x4 = some r) : Ev (fun n => L_impl_GoodAtom_1_7 n x1 x2 x3 x4) r := by
  rw [P_impl_GoodAtom_1_7] at h
  refine Ev.step ?_ (fun n => L_impl_GoodAtom_1_7_eq n x1 x2 x3 x4)
  exact (Ev.ofBif h (fun h => (Ev.ofSome h)) (fun h => (Ev.ofBif h (fun h => (Ev.ofBif h (fun h => (Ev.ofBif h (fun h => (Ev.ofBind h fun y1 h => (Ev.ofSome h))) (fun h => (Ev.ofSome h)))) (fun h => (Ev.ofSome h)))) (fun h => (Ev.ofBif h (fun h => (Ev.ofBif h (fun h => (Ev.ofBind h fun y2 h => (Ev.ofBif h (fun h => (Ev.ofBind h fun y3 h => (Ev.ofSome h))) (fun h => (Ev.ofSome h))))) (fun h => (Ev.ofSome h)))) (fun h => (Ev.ofBif h (fun h => (Ev.ofBif h (fun h => (Ev.ofSome h)) (fun h => (Ev.ofBif h (fun h => (Ev.ofSome h)) (fun h => (Ev.ofBif h (fun h => (Ev.ofBif h (fun h => (Ev.ofBif h (fun h => (Ev.ofBif h (fun h => (Ev.ofNone h)) (fun h => (Ev.ofSome h)))) (fun h => (Ev.ofNone h)))) (fun h => (Ev.ofSome h)))) (fun h => (Ev.ofSome h)))))))) (fun h => (Ev.ofBif h (fun h => (Ev.ofBif h (fun h => (Ev.ofBif h (fun h => (Ev.ofSome h)) (fun h => (Ev.ofSome h)))) (fun h => (Ev.ofSome h)))) (fun h => (Ev.ofSome h)))))))))))
theorem S_impl_GoodAtom_1_2 {x1 : Bool} {x2 : DAtom} {r : Bool} (h : P_impl_GoodAtom_1_2 x1 x2 = some r) : Ev (fun n => L_impl_GoodAtom_1_2 n x1 x2) r := by
  rw [P_impl_GoodAtom_1_2] at h
  refine Ev.step ?_ (fun n => L_impl_GoodAtom_1_2_eq n x1 x2)
  exact (Ev.ofBif h (fun h => (Ev.ofBif h (fun h => (Ev.ofBif h (fun h => (Ev.ofSome h)) (fun h => (Ev.ofSome h)))) (fun h => (Ev.ofSome h)))) (fun h => (Ev.ofBif h (fun h => (S_impl_GoodAtom_1_7 h)) (fun h => (S_impl_GoodAtom_1_7 h)))))
theorem S_impl_GoodAtom (a0 : DAtom) {r : Bool} (h : P_impl_GoodAtom a0 = some r) : Ev (fun n => F_impl_GoodAtom n a0) r := by
  rw [P_impl_GoodAtom] at h
  refine Ev.of_eq ?_ (fun n => F_impl_GoodAtom_eq n a0)
  exact (Ev.ofBif h (fun h => (S_impl_GoodAtom_1_2 h)) (fun h => (S_impl_GoodAtom_1_2 h)))
theorem hcs_impl_GoodAtom : ∀ x ∈ cs_impl_GoodAtom, CtrOk Tryd.prog x := (conOf_cons ok_impl_yprinted (conOf_cons ok_impl_GoodName conOf_nil))
theorem ok_impl_GoodAtom : CtrOk Tryd.prog (c_impl_GoodAtom) := by
  refine ctr_of_run (c := c_impl_GoodAtom) (by kernel_rfl) (by kernel_rfl : Tryd.prog.funcs[70]? = some Tryd.f70) (code := Tryd.f70.body.getD .skip) (by kernel_rfl) (by kernel_rfl) (by kernel_rfl) (A := A_impl_GoodAtom) (I := In_impl_GoodAtom) (hcs_impl_GoodAtom) ?_
  rintro ⟨a0, u⟩ y hy
  exact (S_impl_GoodAtom a0 hy).get

/-! ## impl.yzeroAtom (71) -/
def T_impl_yzeroAtom (a0 : DAtom) : Bool :=
  @decide (a0 = (0, 0, ([] : List Int), ([] : List Int))) (Ty.decEq TyAtom a0 (0, 0, ([] : List Int), ([] : List Int)))
noncomputable def c_impl_yzeroAtom : Ctr := ⟨71, [TyAtom], [.bool], fun x => some (T_impl_yzeroAtom x.1)⟩
def A_impl_yzeroAtom : List (List Nat × Ann) := []
def In_impl_yzeroAtom : List (List Nat × Nat) := []
noncomputable def cs_impl_yzeroAtom : List Ctr := []
noncomputable def F_impl_yzeroAtom (n : Nat) (a0 : DAtom) : Option Bool := run Tryd.prog A_impl_yzeroAtom In_impl_yzeroAtom (conOf cs_impl_yzeroAtom) Tryd.f71 (Tryd.f71.body.getD .skip) (packT [.bool]) n (argsV [TyAtom] (a0, ()))
theorem F_impl_yzeroAtom_eq (n : Nat) (a0 : DAtom) : F_impl_yzeroAtom n a0 =
    some (@decide (a0 = (0, 0, ([] : List Int), ([] : List Int))) (Ty.decEq TyAtom a0 (0, 0, ([] : List Int), ([] : List Int)))) := by kernel_rfl
theorem S_impl_yzeroAtom (n : Nat) (a0 : DAtom) : F_impl_yzeroAtom n a0 = some (T_impl_yzeroAtom a0) := (F_impl_yzeroAtom_eq n a0).trans rfl
theorem hcs_impl_yzeroAtom : ∀ x ∈ cs_impl_yzeroAtom, CtrOk Tryd.prog x := conOf_nil
theorem ok_impl_yzeroAtom : CtrOk Tryd.prog (c_impl_yzeroAtom) := by
  refine ctr_of_run (c := c_impl_yzeroAtom) (by kernel_rfl) (by kernel_rfl : Tryd.prog.funcs[71]? = some Tryd.f71) (code := Tryd.f71.body.getD .skip) (by kernel_rfl) (by kernel_rfl) (by kernel_rfl) (A := A_impl_yzeroAtom) (I := In_impl_yzeroAtom) (hcs_impl_yzeroAtom) ?_
  rintro ⟨a0, u⟩ y hy
  exact ⟨0, (S_impl_yzeroAtom 0 a0).trans hy⟩

/-! ## cmp.isNaN[int] (134) -/
def T_cmp_isNaN_int (a0 : Int) : Bool :=
  !decide (a0 = a0)
noncomputable def c_cmp_isNaN_int : Ctr := ⟨134, [I64], [.bool], fun x => some (T_cmp_isNaN_int x.1)⟩
def A_cmp_isNaN_int : List (List Nat × Ann) := []
def In_cmp_isNaN_int : List (List Nat × Nat) := []
noncomputable def cs_cmp_isNaN_int : List Ctr := []
noncomputable def F_cmp_isNaN_int (n : Nat) (a0 : Int) : Option Bool := run Tryd.prog A_cmp_isNaN_int In_cmp_isNaN_int (conOf cs_cmp_isNaN_int) Tryd.f134 (Tryd.f134.body.getD .skip) (packT [.bool]) n (argsV [I64] (a0, ()))
theorem F_cmp_isNaN_int_eq (n : Nat) (a0 : Int) : F_cmp_isNaN_int n a0 =
    some (!decide (a0 = a0)) := by kernel_rfl
theorem S_cmp_isNaN_int (n : Nat) (a0 : Int) : F_cmp_isNaN_int n a0 = some (T_cmp_isNaN_int a0) := (F_cmp_isNaN_int_eq n a0).trans rfl
theorem hcs_cmp_isNaN_int : ∀ x ∈ cs_cmp_isNaN_int, CtrOk Tryd.prog x := conOf_nil
theorem ok_cmp_isNaN_int : CtrOk Tryd.prog (c_cmp_isNaN_int) := by
  refine ctr_of_run (c := c_cmp_isNaN_int) (by kernel_rfl) (by kernel_rfl : Tryd.prog.funcs[134]? = some Tryd.f134) (code := Tryd.f134.body.getD .skip) (by kernel_rfl) (by kernel_rfl) (by kernel_rfl) (A := A_cmp_isNaN_int) (I := In_cmp_isNaN_int) (hcs_cmp_isNaN_int) ?_
  rintro ⟨a0, u⟩ y hy
  exact ⟨0, (S_cmp_isNaN_int 0 a0).trans hy⟩

/-! ## cmp.Compare[int] (124) -/
def T_cmp_Compare_int (a0 : Int) (a1 : Int) : Int :=
  bif T_cmp_isNaN_int a0 then
    bif T_cmp_isNaN_int a1 then
      0
    else
      (-1)
  else
    bif T_cmp_isNaN_int a1 then
      1
    else
      bif decide (a0 < a1) then
        (-1)
      else
        bif decide (a1 < a0) then
          1
        else
          0
noncomputable def c_cmp_Compare_int : Ctr := ⟨124, [I64, I64], [I64], fun x => some (T_cmp_Compare_int x.1 x.2.1)⟩
def A_cmp_Compare_int : List (List Nat × Ann) := []
def In_cmp_Compare_int : List (List Nat × Nat) := []
noncomputable def cs_cmp_Compare_int : List Ctr := [c_cmp_isNaN_int]
noncomputable def F_cmp_Compare_int (n : Nat) (a0 : Int) (a1 : Int) : Option Int := run Tryd.prog A_cmp_Compare_int In_cmp_Compare_int (conOf cs_cmp_Compare_int) Tryd.f124 (Tryd.f124.body.getD .skip) (packT [I64]) n (argsV [I64, I64] (a0, a1, ()))
theorem F_cmp_Compare_int_eq (n : Nat) (a0 : Int) (a1 : Int) : F_cmp_Compare_int n a0 a1 =
    bif T_cmp_isNaN_int a0 then
      bif T_cmp_isNaN_int a1 then
        some 0
      else
        some (-1)
    else
      bif T_cmp_isNaN_int a1 then
        some 1
      else
        bif decide (a0 < a1) then
          some (-1)
        else
          bif decide (a1 < a0) then
            some 1
          else
            some 0 := by kernel_rfl
theorem S_cmp_Compare_int (n : Nat) (a0 : Int) (a1 : Int) : F_cmp_Compare_int n a0 a1 = some (T_cmp_Compare_int a0 a1) := (F_cmp_Compare_int_eq n a0 a1).trans (cond_some (cond_some rfl rfl) (cond_some rfl (cond_some rfl (cond_some rfl rfl))))
theorem hcs_cmp_Compare_int : ∀ x ∈ cs_cmp_Compare_int, CtrOk Tryd.prog x := (conOf_cons ok_cmp_isNaN_int conOf_nil)
theorem ok_cmp_Compare_int : CtrOk Tryd.prog (c_cmp_Compare_int) := by
  refine ctr_of_run (c := c_cmp_Compare_int) (by kernel_rfl) (by kernel_rfl : Tryd.prog.funcs[124]? = some Tryd.f124) (code := Tryd.f124.body.getD .skip) (by kernel_rfl) (by kernel_rfl) (by kernel_rfl) (A := A_cmp_Compare_int) (I := In_cmp_Compare_int) (hcs_cmp_Compare_int) ?_
  rintro ⟨a0, a1, u⟩ y hy
  exact ⟨0, (S_cmp_Compare_int 0 a0 a1).trans hy⟩

/-! ## cmp.isNaN[string] (135) -/
def T_cmp_isNaN_string (a0 : (List Int)) : Bool :=
  !decide (a0 = a0)
noncomputable def c_cmp_isNaN_string : Ctr := ⟨135, [.str], [.bool], fun x => some (T_cmp_isNaN_string x.1)⟩
def A_cmp_isNaN_string : List (List Nat × Ann) := []
def In_cmp_isNaN_string : List (List Nat × Nat) := []
noncomputable def cs_cmp_isNaN_string : List Ctr := []
noncomputable def F_cmp_isNaN_string (n : Nat) (a0 : (List Int)) : Option Bool := run Tryd.prog A_cmp_isNaN_string In_cmp_isNaN_string (conOf cs_cmp_isNaN_string) Tryd.f135 (Tryd.f135.body.getD .skip) (packT [.bool]) n (argsV [.str] (a0, ()))
theorem F_cmp_isNaN_string_eq (n : Nat) (a0 : (List Int)) : F_cmp_isNaN_string n a0 =
    some (!decide (a0 = a0)) := by kernel_rfl
theorem S_cmp_isNaN_string (n : Nat) (a0 : (List Int)) : F_cmp_isNaN_string n a0 = some (T_cmp_isNaN_string a0) := (F_cmp_isNaN_string_eq n a0).trans rfl
theorem hcs_cmp_isNaN_string : ∀ x ∈ cs_cmp_isNaN_string, CtrOk Tryd.prog x := conOf_nil
theorem ok_cmp_isNaN_string : CtrOk Tryd.prog (c_cmp_isNaN_string) := by
  refine ctr_of_run (c := c_cmp_isNaN_string) (by kernel_rfl) (by kernel_rfl : Tryd.prog.funcs[135]? = some Tryd.f135) (code := Tryd.f135.body.getD .skip) (by kernel_rfl) (by kernel_rfl) (by kernel_rfl) (A := A_cmp_isNaN_string) (I := In_cmp_isNaN_string) (hcs_cmp_isNaN_string) ?_
  rintro ⟨a0, u⟩ y hy
  exact ⟨0, (S_cmp_isNaN_string 0 a0).trans hy⟩

/-! ## cmp.Compare[string] (125) -/
def T_cmp_Compare_string (a0 : (List Int)) (a1 : (List Int)) : Int :=
  bif T_cmp_isNaN_string a0 then
    bif T_cmp_isNaN_string a1 then
      0
    else
      (-1)
  else
    bif T_cmp_isNaN_string a1 then
      1
    else
      bif lessI a0 a1 then
        (-1)
      else
        bif lessI a1 a0 then
          1
        else
          0
noncomputable def c_cmp_Compare_string : Ctr := ⟨125, [.str, .str], [I64], fun x => some (T_cmp_Compare_string x.1 x.2.1)⟩
def A_cmp_Compare_string : List (List Nat × Ann) := []
def In_cmp_Compare_string : List (List Nat × Nat) := []
noncomputable def cs_cmp_Compare_string : List Ctr := [c_cmp_isNaN_string]
noncomputable def F_cmp_Compare_string (n : Nat) (a0 : (List Int)) (a1 : (List Int)) : Option Int := run Tryd.prog A_cmp_Compare_string In_cmp_Compare_string (conOf cs_cmp_Compare_string) Tryd.f125 (Tryd.f125.body.getD .skip) (packT [I64]) n (argsV [.str, .str] (a0, a1, ()))
theorem F_cmp_Compare_string_eq (n : Nat) (a0 : (List Int)) (a1 : (List Int)) : F_cmp_Compare_string n a0 a1 =
    bif T_cmp_isNaN_string a0 then
      bif T_cmp_isNaN_string a1 then
        some 0
      else
        some (-1)
    else
      bif T_cmp_isNaN_string a1 then
        some 1
      else
        bif lessI a0 a1 then
          some (-1)
        else
          bif lessI a1 a0 then
            some 1
          else
            some 0 := by kernel_rfl
theorem S_cmp_Compare_string (n : Nat) (a0 : (List Int)) (a1 : (List Int)) : F_cmp_Compare_string n a0 a1 = some (T_cmp_Compare_string a0 a1) := (F_cmp_Compare_string_eq n a0 a1).trans (cond_some (cond_some rfl rfl) (cond_some rfl (cond_some rfl (cond_some rfl rfl))))
theorem hcs_cmp_Compare_string : ∀ x ∈ cs_cmp_Compare_string, CtrOk Tryd.prog x := (conOf_cons ok_cmp_isNaN_string conOf_nil)
theorem ok_cmp_Compare_string : CtrOk Tryd.prog (c_cmp_Compare_string) := by
  refine ctr_of_run (c := c_cmp_Compare_string) (by kernel_rfl) (by kernel_rfl : Tryd.prog.funcs[125]? = some Tryd.f125) (code := Tryd.f125.body.getD .skip) (by kernel_rfl) (by kernel_rfl) (by kernel_rfl) (A := A_cmp_Compare_string) (I := In_cmp_Compare_string) (hcs_cmp_Compare_string) ?_
  rintro ⟨a0, a1, u⟩ y hy
  exact ⟨0, (S_cmp_Compare_string 0 a0 a1).trans hy⟩

/-! ## cmp.Or[int] (123) -/
noncomputable def P_cmp_Or_int_0_3 : List Int → Option Int
  | [] =>
      some (0 : Int)
  | e :: rest =>
      bif !decide (e = (0 : Int)) then
        some e
      else
        P_cmp_Or_int_0_3 rest
noncomputable def P_cmp_Or_int (a0 : (List Int)) : Option Int :=
  lenOk a0 (P_cmp_Or_int_0_3 a0)
noncomputable def c_cmp_Or_int : Ctr := ⟨123, [(.list I64)], [I64], fun x => P_cmp_Or_int x.1⟩
def A_cmp_Or_int : List (List Nat × Ann) := [([0, 3], [.keep 0 3, .keep 0 6, .keep 0 7, .keep 0 8])]
def In_cmp_Or_int : List (List Nat × Nat) := []
noncomputable def cs_cmp_Or_int : List Ctr := []
noncomputable def F_cmp_Or_int (n : Nat) (a0 : (List Int)) : Option Int := run Tryd.prog A_cmp_Or_int In_cmp_Or_int (conOf cs_cmp_Or_int) Tryd.f123 (Tryd.f123.body.getD .skip) (packT [I64]) n (argsV [(.list I64)] (a0, ()))
noncomputable abbrev L_cmp_Or_int_0_3 (n : Nat) (x1 : Int) (x2 : (List Int)) (x3 : Int) (x4 : Int) : Option Int := lam Tryd.prog A_cmp_Or_int In_cmp_Or_int (conOf cs_cmp_Or_int) Tryd.f123 (Tryd.f123.body.getD .skip) (packT [I64]) n [0, 3] [.d I64 x1, .d (.list I64) x2, .d I64 x3, .d I64 x4]
theorem F_cmp_Or_int_eq (n : Nat) (a0 : (List Int)) : F_cmp_Or_int n a0 =
    L_cmp_Or_int_0_3 n 0 a0 (a0.length : Int) 0 := by kernel_rfl
theorem L_cmp_Or_int_0_3_eq (n : Nat) (x1 : Int) (x2 : (List Int)) (x3 : Int) (x4 : Int) : L_cmp_Or_int_0_3 (n + 1) x1 x2 x3 x4 =
    bif decide (x4 < x3) then
      bif inB x4 x2.length then
        bif !decide (rd x2 x4 (Ty.dflt I64) = x1) then
          some (rd x2 x4 (Ty.dflt I64))
        else
          L_cmp_Or_int_0_3 n x1 x2 x3 (IntKind.wrap .i64 (x4 + 1))
      else none
    else
      some x1 := by kernel_rfl
theorem S_cmp_Or_int_0_3 {x2 : (List Int)} (hl : x2.length ≤ maxLen) : ∀ (rest : List Int) (k : Nat) (r : Int), rest = x2.drop k → P_cmp_Or_int_0_3 rest = some r → Ev (fun n => L_cmp_Or_int_0_3 n (0 : Int) x2 (x2.length : Int) (k : Int)) r := by
  intro rest
  induction rest with
  | nil =>
    intro k r hr h
    have hk := drop_nil hr
    rw [P_cmp_Or_int_0_3] at h
    refine Ev.step ?_ (fun n => L_cmp_Or_int_0_3_eq n (0 : Int) x2 (x2.length : Int) (k : Int))
    rw [show decide ((k : Int) < (x2.length : Int)) = false from decide_eq_false (by omega)]
    exact Ev.neg rfl (Ev.ofSome h)
  | cons e rest ih =>
    intro k r hr h
    obtain ⟨hk, hx, hr2⟩ := drop_cons (d := (Ty.dflt I64)) hr
    have hw := wrap_succ hl hk
    have ih2 : ∀ (r : Int), P_cmp_Or_int_0_3 rest = some r → Ev (fun n => L_cmp_Or_int_0_3 n (0 : Int) x2 (x2.length : Int) (IntKind.wrap .i64 ((k : Int) + 1))) r := by
      intro r h; rw [hw]; exact ih (k + 1) r hr2 h
    rw [P_cmp_Or_int_0_3] at h
    refine Ev.step ?_ (fun n => L_cmp_Or_int_0_3_eq n (0 : Int) x2 (x2.length : Int) (k : Int))
    rw [show decide ((k : Int) < (x2.length : Int)) = true from decide_eq_true (by omega), inB_nat2 hk, hx]
    exact Ev.pos rfl (Ev.pos rfl (Ev.ofBif h (fun h => (Ev.ofSome h)) (fun h => (ih2  _ h))))
theorem S_cmp_Or_int (a0 : (List Int)) {r : Int} (h : P_cmp_Or_int a0 = some r) : Ev (fun n => F_cmp_Or_int n a0) r := by
  rw [P_cmp_Or_int] at h
  refine Ev.of_eq ?_ (fun n => F_cmp_Or_int_eq n a0)
  exact (Ev.ofLen h fun hl h => S_cmp_Or_int_0_3 hl _ (0 : Nat) _ rfl h)
theorem hcs_cmp_Or_int : ∀ x ∈ cs_cmp_Or_int, CtrOk Tryd.prog x := conOf_nil
theorem ok_cmp_Or_int : CtrOk Tryd.prog (c_cmp_Or_int) := by
  refine ctr_of_run (c := c_cmp_Or_int) (by kernel_rfl) (by kernel_rfl : Tryd.prog.funcs[123]? = some Tryd.f123) (code := Tryd.f123.body.getD .skip) (by kernel_rfl) (by kernel_rfl) (by kernel_rfl) (A := A_cmp_Or_int) (I := In_cmp_Or_int) (hcs_cmp_Or_int) ?_
  rintro ⟨a0, u⟩ y hy
  exact (S_cmp_Or_int a0 hy).get

/-! ## impl.ycmpAtom (107) -/
noncomputable def P_impl_ycmpAtom (a0 : DAtom) (a1 : DAtom) : Option Int :=
  Option.bind (P_cmp_Or_int ([T_cmp_Compare_int a0.1 a1.1, T_cmp_Compare_int a0.2.1 a1.2.1, T_cmp_Compare_string a0.2.2.2 a1.2.2.2, T_cmp_Compare_string a0.2.2.1 a1.2.2.1] : List Int)) fun (y1 : Int) =>
  some y1
noncomputable def c_impl_ycmpAtom : Ctr := ⟨107, [TyAtom, TyAtom], [I64], fun x => P_impl_ycmpAtom x.1 x.2.1⟩
def A_impl_ycmpAtom : List (List Nat × Ann) := []
def In_impl_ycmpAtom : List (List Nat × Nat) := []
noncomputable def cs_impl_ycmpAtom : List Ctr := [c_cmp_Compare_int, c_cmp_Compare_string, c_cmp_Or_int]
noncomputable def F_impl_ycmpAtom (n : Nat) (a0 : DAtom) (a1 : DAtom) : Option Int := run Tryd.prog A_impl_ycmpAtom In_impl_ycmpAtom (conOf cs_impl_ycmpAtom) Tryd.f107 (Tryd.f107.body.getD .skip) (packT [I64]) n (argsV [TyAtom, TyAtom] (a0, a1, ()))
theorem F_impl_ycmpAtom_eq (n : Nat) (a0 : DAtom) (a1 : DAtom) : F_impl_ycmpAtom n a0 a1 =
    Option.bind (P_cmp_Or_int ([T_cmp_Compare_int a0.1 a1.1, T_cmp_Compare_int a0.2.1 a1.2.1, T_cmp_Compare_string a0.2.2.2 a1.2.2.2, T_cmp_Compare_string a0.2.2.1 a1.2.2.1] : List Int)) fun (y1 : Int) =>
    some y1 := by kernel_rfl
theorem S_impl_ycmpAtom (a0 : DAtom) (a1 : DAtom) {r : Int} (h : P_impl_ycmpAtom a0 a1 = some r) : Ev (fun n => F_impl_ycmpAtom n a0 a1) r := by
  rw [P_impl_ycmpAtom] at h
  refine Ev.of_eq ?_ (fun n => F_impl_ycmpAtom_eq n a0 a1)
  exact (Ev.ofBind h fun y1 h => (Ev.ofSome h))
theorem hcs_impl_ycmpAtom : ∀ x ∈ cs_impl_ycmpAtom, CtrOk Tryd.prog x := (conOf_cons ok_cmp_Compare_int (conOf_cons ok_cmp_Compare_string (conOf_cons ok_cmp_Or_int conOf_nil)))
theorem ok_impl_ycmpAtom : CtrOk Tryd.prog (c_impl_ycmpAtom) := by
  refine ctr_of_run (c := c_impl_ycmpAtom) (by kernel_rfl) (by kernel_rfl : Tryd.prog.funcs[107]? = some Tryd.f107) (code := Tryd.f107.body.getD .skip) (by kernel_rfl) (by kernel_rfl) (by kernel_rfl) (A := A_impl_ycmpAtom) (I := In_impl_ycmpAtom) (hcs_impl_ycmpAtom) ?_
  rintro ⟨a0, a1, u⟩ y hy
  exact (S_impl_ycmpAtom a0 a1 hy).get

/-! ## impl.yrisingAtoms (72) -/
noncomputable def P_impl_yrisingAtoms_0_2 (x1 : (List DAtom)) : List DAtom → Nat → Option Bool
  | [], k =>
      some true
  | e :: rest, k =>
      Option.bind (P_impl_GoodAtom (e)) fun (y1 : Bool) =>
      bif !(y1) then
        some false
      else
        bif decide ((0 : Int) < (k : Int)) then
          bif inB (IntKind.wrap .i64 ((k : Int) - 1)) x1.length then
            Option.bind (P_impl_ycmpAtom (rd x1 (IntKind.wrap .i64 ((k : Int) - 1)) (Ty.dflt TyAtom)) (e)) fun (y2 : Int) =>
            bif decide ((0 : Int) ≤ y2) then
              some false
            else
              P_impl_yrisingAtoms_0_2 x1 rest (k + 1)
          else none
        else
          P_impl_yrisingAtoms_0_2 x1 rest (k + 1)
noncomputable def P_impl_yrisingAtoms (a0 : (List DAtom)) : Option Bool :=
  lenOk a0 (P_impl_yrisingAtoms_0_2 a0 a0 0)
noncomputable def c_impl_yrisingAtoms : Ctr := ⟨72, [(.list TyAtom)], [.bool], fun x => P_impl_yrisingAtoms x.1⟩
def A_impl_yrisingAtoms : List (List Nat × Ann) := [([0, 2], [.keep 0 0, .keep 0 5, .keep 0 6, .keep 0 7])]
def In_impl_yrisingAtoms : List (List Nat × Nat) := []
noncomputable def cs_impl_yrisingAtoms : List Ctr := [c_impl_GoodAtom, c_impl_ycmpAtom]
noncomputable def F_impl_yrisingAtoms (n : Nat) (a0 : (List DAtom)) : Option Bool := run Tryd.prog A_impl_yrisingAtoms In_impl_yrisingAtoms (conOf cs_impl_yrisingAtoms) Tryd.f72 (Tryd.f72.body.getD .skip) (packT [.bool]) n (argsV [(.list TyAtom)] (a0, ()))
noncomputable abbrev L_impl_yrisingAtoms_0_2 (n : Nat) (x1 : (List DAtom)) (x2 : (List DAtom)) (x3 : Int) (x4 : Int) : Option Bool := lam Tryd.prog A_impl_yrisingAtoms In_impl_yrisingAtoms (conOf cs_impl_yrisingAtoms) Tryd.f72 (Tryd.f72.body.getD .skip) (packT [.bool]) n [0, 2] [.d (.list TyAtom) x1, .d (.list TyAtom) x2, .d I64 x3, .d I64 x4]
theorem F_impl_yrisingAtoms_eq (n : Nat) (a0 : (List DAtom)) : F_impl_yrisingAtoms n a0 =
    L_impl_yrisingAtoms_0_2 n a0 a0 (a0.length : Int) 0 := by kernel_rfl
theorem L_impl_yrisingAtoms_0_2_eq (n : Nat) (x1 : (List DAtom)) (x2 : (List DAtom)) (x3 : Int) (x4 : Int) : L_impl_yrisingAtoms_0_2 (n + 1) x1 x2 x3 x4 =
    bif decide (x4 < x3) then
      bif inB x4 x2.length then
        Option.bind (P_impl_GoodAtom (rd x2 x4 (Ty.dflt TyAtom))) fun (y1 : Bool) =>
        bif !(y1) then
          some false
        else
          bif decide ((0 : Int) < x4) then
            bif inB (IntKind.wrap .i64 (x4 - 1)) x1.length then
              Option.bind (P_impl_ycmpAtom (rd x1 (IntKind.wrap .i64 (x4 - 1)) (Ty.dflt TyAtom)) (rd x2 x4 (Ty.dflt TyAtom))) fun (y2 : Int) =>
              bif decide ((0 : Int) ≤ y2) then
                some false
              else
                L_impl_yrisingAtoms_0_2 n x1 x2 x3 (IntKind.wrap .i64 (x4 + 1))
            else none
          else
            L_impl_yrisingAtoms_0_2 n x1 x2 x3 (IntKind.wrap .i64 (x4 + 1))
      else none
    else
      some true := by kernel_rfl
theorem S_impl_yrisingAtoms_0_2 {x1 : (List DAtom)} (hl : x1.length ≤ maxLen) : ∀ (rest : List DAtom) (k : Nat) (r : Bool), rest = x1.drop k → P_impl_yrisingAtoms_0_2 x1 rest k = some r → Ev (fun n => L_impl_yrisingAtoms_0_2 n x1 x1 (x1.length : Int) (k : Int)) r := by
  intro rest
  induction rest with
  | nil =>
    intro k r hr h
    have hk := drop_nil hr
    rw [P_impl_yrisingAtoms_0_2] at h
    refine Ev.step ?_ (fun n => L_impl_yrisingAtoms_0_2_eq n x1 x1 (x1.length : Int) (k : Int))
    rw [show decide ((k : Int) < (x1.length : Int)) = false from decide_eq_false (by omega)]
    exact Ev.neg rfl (Ev.ofSome h)
  | cons e rest ih =>
    intro k r hr h
    obtain ⟨hk, hx, hr2⟩ := drop_cons (d := (Ty.dflt TyAtom)) hr
    have hw := wrap_succ hl hk
    have ih2 : ∀ (r : Bool), P_impl_yrisingAtoms_0_2 x1 rest (k + 1) = some r → Ev (fun n => L_impl_yrisingAtoms_0_2 n x1 x1 (x1.length : Int) (IntKind.wrap .i64 ((k : Int) + 1))) r := by
      intro r h; rw [hw]; exact ih (k + 1) r hr2 h
    rw [P_impl_yrisingAtoms_0_2] at h
    refine Ev.step ?_ (fun n => L_impl_yrisingAtoms_0_2_eq n x1 x1 (x1.length : Int) (k : Int))
    rw [show decide ((k : Int) < (x1.length : Int)) = true from decide_eq_true (by omega), inB_nat2 hk, hx]
    exact Ev.pos rfl (Ev.pos rfl (Ev.ofBind h fun y1 h => (Ev.ofBif h (fun h => (Ev.ofSome h)) (fun h => (Ev.ofBif h (fun h => (Ev.ofBif h (fun h => (Ev.ofBind h fun y2 h => (Ev.ofBif h (fun h => (Ev.ofSome h)) (fun h => (ih2  _ h))))) (fun h => (Ev.ofNone h)))) (fun h => (ih2  _ h)))))))
theorem S_impl_yrisingAtoms (a0 : (List DAtom)) {r : Bool} (h : P_impl_yrisingAtoms a0 = some r) : Ev (fun n => F_impl_yrisingAtoms n a0) r := by
  rw [P_impl_yrisingAtoms] at h
  refine Ev.of_eq ?_ (fun n => F_impl_yrisingAtoms_eq n a0)
  exact (Ev.ofLen h fun hl h => S_impl_yrisingAtoms_0_2 hl _ (0 : Nat) _ rfl h)
theorem hcs_impl_yrisingAtoms : ∀ x ∈ cs_impl_yrisingAtoms, CtrOk Tryd.prog x := (conOf_cons ok_impl_GoodAtom (conOf_cons ok_impl_ycmpAtom conOf_nil))
theorem ok_impl_yrisingAtoms : CtrOk Tryd.prog (c_impl_yrisingAtoms) := by
  refine ctr_of_run (c := c_impl_yrisingAtoms) (by kernel_rfl) (by kernel_rfl : Tryd.prog.funcs[72]? = some Tryd.f72) (code := Tryd.f72.body.getD .skip) (by kernel_rfl) (by kernel_rfl) (by kernel_rfl) (A := A_impl_yrisingAtoms) (I := In_impl_yrisingAtoms) (hcs_impl_yrisingAtoms) ?_
  rintro ⟨a0, u⟩ y hy
  exact (S_impl_yrisingAtoms a0 hy).get

/-! ## impl.yallNames (73) -/
noncomputable def P_impl_yallNames_0_2_1002_1001 : List (List Int) → Nat → Option Bool
  | [], k =>
      some true
  | e :: rest, k =>
      Option.bind (P_impl_GoodName (e)) fun (y1 : Bool) =>
      bif !(y1) then
        some (!decide ((0 : Int) ≤ (k : Int)))
      else
        P_impl_yallNames_0_2_1002_1001 rest (k + 1)
noncomputable def P_impl_yallNames (a0 : (List (List Int))) : Option Bool :=
  lenOk a0 (P_impl_yallNames_0_2_1002_1001 a0 0)
noncomputable def c_impl_yallNames : Ctr := ⟨73, [(.list .str)], [.bool], fun x => P_impl_yallNames x.1⟩
def A_impl_yallNames : List (List Nat × Ann) := [([0, 2, 1002, 1001], [.keep 2 0, .keep 2 1, .keep 2 7, .keep 2 8])]
def In_impl_yallNames : List (List Nat × Nat) := [([1001], 87), ([1002, 1001], 112), ([4005, 1002, 1001], 108)]
noncomputable def cs_impl_yallNames : List Ctr := [c_impl_GoodName]
noncomputable def F_impl_yallNames (n : Nat) (a0 : (List (List Int))) : Option Bool := run Tryd.prog A_impl_yallNames In_impl_yallNames (conOf cs_impl_yallNames) Tryd.f73 (Tryd.f73.body.getD .skip) (packT [.bool]) n (argsV [(.list .str)] (a0, ()))
noncomputable abbrev L_impl_yallNames_0_2_1002_1001 (n : Nat) (x1 : (List (List Int))) (x2 : Int) (x3 : Int) : Option Bool := lam Tryd.prog A_impl_yallNames In_impl_yallNames (conOf cs_impl_yallNames) Tryd.f73 (Tryd.f73.body.getD .skip) (packT [.bool]) n [0, 2, 1002, 1001] [.d (.list .str) x1, .fn 108 [], .d I64 x2, .d I64 x3]
theorem F_impl_yallNames_eq (n : Nat) (a0 : (List (List Int))) : F_impl_yallNames n a0 =
    L_impl_yallNames_0_2_1002_1001 n a0 (a0.length : Int) 0 := by kernel_rfl
theorem L_impl_yallNames_0_2_1002_1001_eq (n : Nat) (x1 : (List (List Int))) (x2 : Int) (x3 : Int) : L_impl_yallNames_0_2_1002_1001 (n + 1) x1 x2 x3 =
    bif decide (x3 < x2) then
      bif inB x3 x1.length then
        Option.bind (P_impl_GoodName (rd x1 x3 (Ty.dflt .str))) fun (y1 : Bool) =>
        bif !(y1) then
          some (!decide ((0 : Int) ≤ x3))
        else
          L_impl_yallNames_0_2_1002_1001 n x1 x2 (IntKind.wrap .i64 (x3 + 1))
      else none
    else
      some true := by kernel_rfl
theorem S_impl_yallNames_0_2_1002_1001 {x1 : (List (List Int))} (hl : x1.length ≤ maxLen) : ∀ (rest : List (List Int)) (k : Nat) (r : Bool), rest = x1.drop k → P_impl_yallNames_0_2_1002_1001 rest k = some r → Ev (fun n => L_impl_yallNames_0_2_1002_1001 n x1 (x1.length : Int) (k : Int)) r := by
  intro rest
  induction rest with
  | nil =>
    intro k r hr h
    have hk := drop_nil hr
    rw [P_impl_yallNames_0_2_1002_1001] at h
    refine Ev.step ?_ (fun n => L_impl_yallNames_0_2_1002_1001_eq n x1 (x1.length : Int) (k : Int))
    rw [show decide ((k : Int) < (x1.length : Int)) = false from decide_eq_false (by omega)]
    exact Ev.neg rfl (Ev.ofSome h)
  | cons e rest ih =>
    intro k r hr h
    obtain ⟨hk, hx, hr2⟩ := drop_cons (d := (Ty.dflt .str)) hr
    have hw := wrap_succ hl hk
    have ih2 : ∀ (r : Bool), P_impl_yallNames_0_2_1002_1001 rest (k + 1) = some r → Ev (fun n => L_impl_yallNames_0_2_1002_1001 n x1 (x1.length : Int) (IntKind.wrap .i64 ((k : Int) + 1))) r := by
      intro r h; rw [hw]; exact ih (k + 1) r hr2 h
    rw [P_impl_yallNames_0_2_1002_1001] at h
    refine Ev.step ?_ (fun n => L_impl_yallNames_0_2_1002_1001_eq n x1 (x1.length : Int) (k : Int))
    rw [show decide ((k : Int) < (x1.length : Int)) = true from decide_eq_true (by omega), inB_nat2 hk, hx]
    exact Ev.pos rfl (Ev.pos rfl (Ev.ofBind h fun y1 h => (Ev.ofBif h (fun h => (Ev.ofSome h)) (fun h => (ih2  _ h)))))
theorem S_impl_yallNames (a0 : (List (List Int))) {r : Bool} (h : P_impl_yallNames a0 = some r) : Ev (fun n => F_impl_yallNames n a0) r := by
  rw [P_impl_yallNames] at h
  refine Ev.of_eq ?_ (fun n => F_impl_yallNames_eq n a0)
  exact (Ev.ofLen h fun hl h => S_impl_yallNames_0_2_1002_1001 hl _ (0 : Nat) _ rfl h)
theorem hcs_impl_yallNames : ∀ x ∈ cs_impl_yallNames, CtrOk Tryd.prog x := (conOf_cons ok_impl_GoodName conOf_nil)
theorem ok_impl_yallNames : CtrOk Tryd.prog (c_impl_yallNames) := by
  refine ctr_of_run (c := c_impl_yallNames) (by kernel_rfl) (by kernel_rfl : Tryd.prog.funcs[73]? = some Tryd.f73) (code := Tryd.f73.body.getD .skip) (by kernel_rfl) (by kernel_rfl) (by kernel_rfl) (A := A_impl_yallNames) (I := In_impl_yallNames) (hcs_impl_yallNames) ?_
  rintro ⟨a0, u⟩ y hy
  exact (S_impl_yallNames a0 hy).get

/-! ## impl.yrising (74) -/
noncomputable def P_impl_yrising_0_2 (x1 : (List (List Int))) : List (List Int) → Nat → Option Bool
  | [], k =>
      some true
  | e :: rest, k =>
      bif decide ((0 : Int) < (k : Int)) then
        bif inB (IntKind.wrap .i64 ((k : Int) - 1)) x1.length then
          bif !lessI (rd x1 (IntKind.wrap .i64 ((k : Int) - 1)) (Ty.dflt .str)) (e) then
            some false
          else
            P_impl_yrising_0_2 x1 rest (k + 1)
        else none
      else
        P_impl_yrising_0_2 x1 rest (k + 1)
noncomputable def P_impl_yrising (a0 : (List (List Int))) : Option Bool :=
  lenOk a0 (P_impl_yrising_0_2 a0 a0 0)
noncomputable def c_impl_yrising : Ctr := ⟨74, [(.list .str)], [.bool], fun x => P_impl_yrising x.1⟩
def A_impl_yrising : List (List Nat × Ann) := [([0, 2], [.keep 0 0, .keep 0 5, .keep 0 6, .keep 0 7])]
def In_impl_yrising : List (List Nat × Nat) := []
noncomputable def cs_impl_yrising : List Ctr := []
noncomputable def F_impl_yrising (n : Nat) (a0 : (List (List Int))) : Option Bool := run Tryd.prog A_impl_yrising In_impl_yrising (conOf cs_impl_yrising) Tryd.f74 (Tryd.f74.body.getD .skip) (packT [.bool]) n (argsV [(.list .str)] (a0, ()))
noncomputable abbrev L_impl_yrising_0_2 (n : Nat) (x1 : (List (List Int))) (x2 : (List (List Int))) (x3 : Int) (x4 : Int) : Option Bool := lam Tryd.prog A_impl_yrising In_impl_yrising (conOf cs_impl_yrising) Tryd.f74 (Tryd.f74.body.getD .skip) (packT [.bool]) n [0, 2] [.d (.list .str) x1, .d (.list .str) x2, .d I64 x3, .d I64 x4]
theorem F_impl_yrising_eq (n : Nat) (a0 : (List (List Int))) : F_impl_yrising n a0 =
    L_impl_yrising_0_2 n a0 a0 (a0.length : Int) 0 := by kernel_rfl
theorem L_impl_yrising_0_2_eq (n : Nat) (x1 : (List (List Int))) (x2 : (List (List Int))) (x3 : Int) (x4 : Int) : L_impl_yrising_0_2 (n + 1) x1 x2 x3 x4 =
    bif decide (x4 < x3) then
      bif inB x4 x2.length then
        bif decide ((0 : Int) < x4) then
          bif inB (IntKind.wrap .i64 (x4 - 1)) x1.length then
            bif !lessI (rd x1 (IntKind.wrap .i64 (x4 - 1)) (Ty.dflt .str)) (rd x2 x4 (Ty.dflt .str)) then
              some false
            else
              L_impl_yrising_0_2 n x1 x2 x3 (IntKind.wrap .i64 (x4 + 1))
          else none
        else
          L_impl_yrising_0_2 n x1 x2 x3 (IntKind.wrap .i64 (x4 + 1))
      else none
    else
      some true := by kernel_rfl
theorem S_impl_yrising_0_2 {x1 : (List (List Int))} (hl : x1.length ≤ maxLen) : ∀ (rest : List (List Int)) (k : Nat) (r : Bool), rest = x1.drop k → P_impl_yrising_0_2 x1 rest k = some r → Ev (fun n => L_impl_yrising_0_2 n x1 x1 (x1.length : Int) (k : Int)) r := by
  intro rest
  induction rest with
  | nil =>
    intro k r hr h
    have hk := drop_nil hr
    rw [P_impl_yrising_0_2] at h
    refine Ev.step ?_ (fun n => L_impl_yrising_0_2_eq n x1 x1 (x1.length : Int) (k : Int))
    rw [show decide ((k : Int) < (x1.length : Int)) = false from decide_eq_false (by omega)]
    exact Ev.neg rfl (Ev.ofSome h)
  | cons e rest ih =>
    intro k r hr h
    obtain ⟨hk, hx, hr2⟩ := drop_cons (d := (Ty.dflt .str)) hr
    have hw := wrap_succ hl hk
    have ih2 : ∀ (r : Bool), P_impl_yrising_0_2 x1 rest (k + 1) = some r → Ev (fun n => L_impl_yrising_0_2 n x1 x1 (x1.length : Int) (IntKind.wrap .i64 ((k : Int) + 1))) r := by
      intro r h; rw [hw]; exact ih (k + 1) r hr2 h
    rw [P_impl_yrising_0_2] at h
    refine Ev.step ?_ (fun n => L_impl_yrising_0_2_eq n x1 x1 (x1.length : Int) (k : Int))
    rw [show decide ((k : Int) < (x1.length : Int)) = true from decide_eq_true (by omega), inB_nat2 hk, hx]
    exact Ev.pos rfl (Ev.pos rfl (Ev.ofBif h (fun h => (Ev.ofBif h (fun h => (Ev.ofBif h (fun h => (Ev.ofSome h)) (fun h => (ih2  _ h)))) (fun h => (Ev.ofNone h)))) (fun h => (ih2  _ h))))
theorem S_impl_yrising (a0 : (List (List Int))) {r : Bool} (h : P_impl_yrising a0 = some r) : Ev (fun n => F_impl_yrising n a0) r := by
  rw [P_impl_yrising] at h
  refine Ev.of_eq ?_ (fun n => F_impl_yrising_eq n a0)
  exact (Ev.ofLen h fun hl h => S_impl_yrising_0_2 hl _ (0 : Nat) _ rfl h)
theorem hcs_impl_yrising : ∀ x ∈ cs_impl_yrising, CtrOk Tryd.prog x := conOf_nil
theorem ok_impl_yrising : CtrOk Tryd.prog (c_impl_yrising) := by
  refine ctr_of_run (c := c_impl_yrising) (by kernel_rfl) (by kernel_rfl : Tryd.prog.funcs[74]? = some Tryd.f74) (code := Tryd.f74.body.getD .skip) (by kernel_rfl) (by kernel_rfl) (by kernel_rfl) (A := A_impl_yrising) (I := In_impl_yrising) (hcs_impl_yrising) ?_
  rintro ⟨a0, u⟩ y hy
  exact (S_impl_yrising a0 hy).get

/-! ## impl.GoodValue (33) -/
noncomputable def P_impl_GoodValue_0_2_1002_7031 : List DAtom → Nat → Option Bool
  | [], k =>
      some true
  | e :: rest, k =>
      Option.bind (P_impl_GoodAtom (e)) fun (y5 : Bool) =>
      bif !(y5) then
        some (!decide ((0 : Int) ≤ (k : Int)))
      else
        P_impl_GoodValue_0_2_1002_7031 rest (k + 1)
noncomputable def P_impl_GoodValue (a0 : DValue) : Option Bool :=
  bif decide (a0.1 = 1) then
    Option.bind (P_impl_GoodAtom a0.2.1) fun (y1 : Bool) =>
    bif y1 then
      bif decide ((a0.2.2.1.length : Int) = 0) then
        some (decide ((a0.2.2.2.length : Int) = 0))
      else
        some false
    else
      some false
  else
    bif decide (a0.1 = 2) then
      bif T_impl_yzeroAtom a0.2.1 then
        bif decide ((a0.2.2.1.length : Int) ≤ 50) then
          bif decide ((a0.2.2.2.length : Int) = 0) then
            Option.bind (P_impl_yrisingAtoms a0.2.2.1) fun (y2 : Bool) =>
            some y2
          else
            some false
        else
          some false
      else
        some false
    else
      bif decide (a0.1 = 3) then
        bif T_impl_yzeroAtom a0.2.1 then
          bif decide ((a0.2.2.2.length : Int) ≤ 50) then
            bif decide ((a0.2.2.1.length : Int) = (a0.2.2.2.length : Int)) then
              Option.bind (P_impl_yallNames a0.2.2.2) fun (y3 : Bool) =>
              bif y3 then
                Option.bind (P_impl_yrising a0.2.2.2) fun (y4 : Bool) =>
                bif y4 then
                  lenOk a0.2.2.1 (P_impl_GoodValue_0_2_1002_7031 a0.2.2.1 0)
                else
                  some false
              else
                some false
            else
              some false
          else
            some false
        else
          some false
      else
        some false
noncomputable def c_impl_GoodValue : Ctr := ⟨33, [TyValue], [.bool], fun x => P_impl_GoodValue x.1⟩
def A_impl_GoodValue : List (List Nat × Ann) := [([0, 2, 1002, 7031], [.keep 0 74, .keep 2 0, .keep 2 1, .keep 2 7, .keep 2 8])]
def In_impl_GoodValue : List (List Nat × Nat) := [([7031], 35), ([1002, 7031], 78), ([4005, 1002, 7031], 75)]
noncomputable def cs_impl_GoodValue : List Ctr := [c_impl_GoodAtom, c_impl_yzeroAtom, c_impl_yrisingAtoms, c_impl_yallNames, c_impl_yrising]
noncomputable def F_impl_GoodValue (n : Nat) (a0 : DValue) : Option Bool := run Tryd.prog A_impl_GoodValue In_impl_GoodValue (conOf cs_impl_GoodValue) Tryd.f33 (Tryd.f33.body.getD .skip) (packT [.bool]) n (argsV [TyValue] (a0, ()))
noncomputable abbrev L_impl_GoodValue_0_2_1002_7031 (n : Nat) (x1 : Bool) (x2 : (List DAtom)) (x3 : Int) (x4 : Int) : Option Bool := lam Tryd.prog A_impl_GoodValue In_impl_GoodValue (conOf cs_impl_GoodValue) Tryd.f33 (Tryd.f33.body.getD .skip) (packT [.bool]) n [0, 2, 1002, 7031] [.d .bool x1, .d (.list TyAtom) x2, .fn 75 [], .d I64 x3, .d I64 x4]
theorem F_impl_GoodValue_eq (n : Nat) (a0 : DValue) : F_impl_GoodValue n a0 =
    bif decide (a0.1 = 1) then
      Option.bind (P_impl_GoodAtom a0.2.1) fun (y1 : Bool) =>
      bif y1 then
        bif decide ((a0.2.2.1.length : Int) = 0) then
          some (decide ((a0.2.2.2.length : Int) = 0))
        else
          some false
      else
        some false
    else
      bif decide (a0.1 = 2) then
        bif T_impl_yzeroAtom a0.2.1 then
          bif decide ((a0.2.2.1.length : Int) ≤ 50) then
            bif decide ((a0.2.2.2.length : Int) = 0) then
              Option.bind (P_impl_yrisingAtoms a0.2.2.1) fun (y2 : Bool) =>
              some y2
            else
              some false
          else
            some false
        else
          some false
      else
        bif decide (a0.1 = 3) then
          bif T_impl_yzeroAtom a0.2.1 then
            bif decide ((a0.2.2.2.length : Int) ≤ 50) then
              bif decide ((a0.2.2.1.length : Int) = (a0.2.2.2.length : Int)) then
                Option.bind (P_impl_yallNames a0.2.2.2) fun (y3 : Bool) =>
                bif y3 then
                  Option.bind (P_impl_yrising a0.2.2.2) fun (y4 : Bool) =>
                  bif y4 then
                    L_impl_GoodValue_0_2_1002_7031 n true a0.2.2.1 (a0.2.2.1.length : Int) 0
                  else
                    some false
                else
                  some false
              else
                some false
            else
              some false
          else
            some false
        else
          some false := by kernel_rfl
theorem L_impl_GoodValue_0_2_1002_7031_eq (n : Nat) (x1 : Bool) (x2 : (List DAtom)) (x3 : Int) (x4 : Int) : L_impl_GoodValue_0_2_1002_7031 (n + 1) x1 x2 x3 x4 =
    bif decide (x4 < x3) then
      bif inB x4 x2.length then
        Option.bind (P_impl_GoodAtom (rd x2 x4 (Ty.dflt TyAtom))) fun (y5 : Bool) =>
        bif !(y5) then
          bif x1 then
            some (!decide ((0 : Int) ≤ x4))
          else
            some false
        else
          L_impl_GoodValue_0_2_1002_7031 n x1 x2 x3 (IntKind.wrap .i64 (x4 + 1))
      else none
    else
      bif x1 then
        some true
      else
        some false := by kernel_rfl
theorem S_impl_GoodValue_0_2_1002_7031 {x2 : (List DAtom)} (hl : x2.length ≤ maxLen) : ∀ (rest : List DAtom) (k : Nat) (r : Bool), rest = x2.drop k → P_impl_GoodValue_0_2_1002_7031 rest k = some r → Ev (fun n => L_impl_GoodValue_0_2_1002_7031 n true x2 (x2.length : Int) (k : Int)) r := by
  intro rest
  induction rest with
  | nil =>
    intro k r hr h
    have hk := drop_nil hr
    rw [P_impl_GoodValue_0_2_1002_7031] at h
    refine Ev.step ?_ (fun n => L_impl_GoodValue_0_2_1002_7031_eq n true x2 (x2.length : Int) (k : Int))
    rw [show decide ((k : Int) < (x2.length : Int)) = false from decide_eq_false (by omega)]
    exact Ev.neg rfl (Ev.pos rfl (Ev.ofSome h))
  | cons e rest ih =>
    intro k r hr h
    obtain ⟨hk, hx, hr2⟩ := drop_cons (d := (Ty.dflt TyAtom)) hr
    have hw := wrap_succ hl hk
    have ih2 : ∀ (r : Bool), P_impl_GoodValue_0_2_1002_7031 rest (k + 1) = some r → Ev (fun n => L_impl_GoodValue_0_2_1002_7031 n true x2 (x2.length : Int) (IntKind.wrap .i64 ((k : Int) + 1))) r := by
      intro r h; rw [hw]; exact ih (k + 1) r hr2 h
    rw [P_impl_GoodValue_0_2_1002_7031] at h
    refine Ev.step ?_ (fun n => L_impl_GoodValue_0_2_1002_7031_eq n true x2 (x2.length : Int) (k : Int))
    rw [show decide ((k : Int) < (x2.length : Int)) = true from decide_eq_true (by omega), inB_nat2 hk, hx]
    exact Ev.pos rfl (Ev.pos rfl (Ev.ofBind h fun y5 h => (Ev.ofBif h (fun h => (Ev.pos rfl (Ev.ofSome h))) (fun h => (ih2  _ h)))))
theorem S_impl_GoodValue (a0 : DValue) {r : Bool} (h : P_impl_GoodValue a0 = some r) : Ev (fun n => F_impl_GoodValue n a0) r := by
  rw [P_impl_GoodValue] at h
  refine Ev.of_eq ?_ (fun n => F_impl_GoodValue_eq n a0)
  exact (Ev.ofBif h (fun h => (Ev.ofBind h fun y1 h => (Ev.ofBif h (fun h => (Ev.ofBif h (fun h => (Ev.ofSome h)) (fun h => (Ev.ofSome h)))) (fun h => (Ev.ofSome h))))) (fun h => (Ev.ofBif h (fun h => (Ev.ofBif h (fun h => (Ev.ofBif h (fun h => (Ev.ofBif h (fun h => (Ev.ofBind h fun y2 h => (Ev.ofSome h))) (fun h => (Ev.ofSome h)))) (fun h => (Ev.ofSome h)))) (fun h => (Ev.ofSome h)))) (fun h => (Ev.ofBif h (fun h => (Ev.ofBif h (fun h => (Ev.ofBif h (fun h => (Ev.ofBif h (fun h => (Ev.ofBind h fun y3 h => (Ev.ofBif h (fun h => (Ev.ofBind h fun y4 h => (Ev.ofBif h (fun h => (Ev.ofLen h fun hl h => S_impl_GoodValue_0_2_1002_7031 hl _ (0 : Nat) _ rfl h)) (fun h => (Ev.ofSome h))))) (fun h => (Ev.ofSome h))))) (fun h => (Ev.ofSome h)))) (fun h => (Ev.ofSome h)))) (fun h => (Ev.ofSome h)))) (fun h => (Ev.ofSome h)))))))
theorem hcs_impl_GoodValue : ∀ x ∈ cs_impl_GoodValue, CtrOk Tryd.prog x := (conOf_cons ok_impl_GoodAtom (conOf_cons ok_impl_yzeroAtom (conOf_cons ok_impl_yrisingAtoms (conOf_cons ok_impl_yallNames (conOf_cons ok_impl_yrising conOf_nil)))))
theorem ok_impl_GoodValue : CtrOk Tryd.prog (c_impl_GoodValue) := by
  refine ctr_of_run (c := c_impl_GoodValue) (by kernel_rfl) (by kernel_rfl : Tryd.prog.funcs[33]? = some Tryd.f33) (code := Tryd.f33.body.getD .skip) (by kernel_rfl) (by kernel_rfl) (by kernel_rfl) (A := A_impl_GoodValue) (I := In_impl_GoodValue) (hcs_impl_GoodValue) ?_
  rintro ⟨a0, u⟩ y hy
  exact (S_impl_GoodValue a0 hy).get

/-! ## impl.yatomFits (37) -/
noncomputable def P_impl_yatomFits (g0 : (List ((List Int) × Int))) (a0 : DAtom) (a1 : (List Int)) : Option Bool :=
  Option.bind (P_strings_CutPrefix a1 ([114, 101, 102, 32] : List Int)) fun (y1 : ((List Int) × Bool)) =>
  bif y1.2 then
    bif decide (a0.1 = 4) then
      some (decide (a0.2.2.2 = y1.1))
    else
      some false
  else
    some (decide (getM .str g0 a1 0 = a0.1))
noncomputable def c_impl_yatomFits (g0 : (List ((List Int) × Int))) : Ctr := ⟨37, [TyAtom, .str], [.bool], fun x => P_impl_yatomFits g0 x.1 x.2.1⟩
def A_impl_yatomFits : List (List Nat × Ann) := []
def In_impl_yatomFits : List (List Nat × Nat) := []
noncomputable def cs_impl_yatomFits (g0 : (List ((List Int) × Int))) : List Ctr := [c_strings_CutPrefix]
noncomputable def F_impl_yatomFits (g0 : (List ((List Int) × Int))) (n : Nat) (a0 : DAtom) (a1 : (List Int)) : Option Bool := runE Tryd.prog (glOf [(0, explode (.map .str I64) g0)]) A_impl_yatomFits In_impl_yatomFits (conOf (cs_impl_yatomFits g0)) Tryd.f37 (Tryd.f37.body.getD .skip) (endD Tryd.prog Tryd.f37 (packT [.bool])) n (argsV [TyAtom, .str] (a0, a1, ()))
theorem F_impl_yatomFits_eq (g0 : (List ((List Int) × Int))) (n : Nat) (a0 : DAtom) (a1 : (List Int)) : F_impl_yatomFits g0 n a0 a1 =
    Option.bind (P_strings_CutPrefix a1 ([114, 101, 102, 32] : List Int)) fun (y1 : ((List Int) × Bool)) =>
    bif y1.2 then
      bif decide (a0.1 = 4) then
        some (decide (a0.2.2.2 = y1.1))
      else
        some false
    else
      some (decide (getM .str g0 a1 0 = a0.1)) := by kernel_rfl
theorem S_impl_yatomFits {g0 : (List ((List Int) × Int))} (a0 : DAtom) (a1 : (List Int)) {r : Bool} (h : P_impl_yatomFits g0 a0 a1 = some r) : Ev (fun n => F_impl_yatomFits g0 n a0 a1) r := by
  rw [P_impl_yatomFits] at h
  refine Ev.of_eq ?_ (fun n => F_impl_yatomFits_eq g0 n a0 a1)
  exact (Ev.ofBind h fun y1 h => (Ev.ofBif h (fun h => (Ev.ofBif h (fun h => (Ev.ofSome h)) (fun h => (Ev.ofSome h)))) (fun h => (Ev.ofSome h))))
theorem hcs_impl_yatomFits (g0 : (List ((List Int) × Int))) : ∀ x ∈ cs_impl_yatomFits g0, CtrOkG Tryd.prog (glOf [(0, explode (.map .str I64) g0)]) x := (conOf_cons ok_strings_CutPrefix.any conOf_nil)
theorem ok_impl_yatomFits (g0 : (List ((List Int) × Int))) : CtrOkG Tryd.prog (glOf [(0, explode (.map .str I64) g0)]) (c_impl_yatomFits g0) := by
  refine ctr_of_run (c := c_impl_yatomFits g0) (by kernel_rfl) (by kernel_rfl : Tryd.prog.funcs[37]? = some Tryd.f37) (code := Tryd.f37.body.getD .skip) (by kernel_rfl) (by kernel_rfl) (by kernel_rfl) (A := A_impl_yatomFits) (I := In_impl_yatomFits) (hcs_impl_yatomFits g0) ?_
  rintro ⟨a0, a1, u⟩ y hy
  exact (S_impl_yatomFits a0 a1 hy).get

/-! ## impl.FitsKind (9) -/
noncomputable def P_impl_FitsKind_0_2_1002_6007 (g0 : (List ((List Int) × Int))) (x5 : (List Int)) : List DAtom → Nat → Option Bool
  | [], k =>
      some true
  | e :: rest, k =>
      Option.bind (P_impl_yatomFits g0 (e) x5) fun (y5 : Bool) =>
      bif !(y5) then
        some (!decide ((0 : Int) ≤ (k : Int)))
      else
        P_impl_FitsKind_0_2_1002_6007 g0 x5 rest (k + 1)
noncomputable def P_impl_FitsKind_1_5 (g0 : (List ((List Int) × Int))) (x1 : Bool) (x2 : DValue) (x3 : (List Int)) : Option Bool :=
  bif x1 then
    bif decide (x2.1 = 2) then
      lenOk x2.2.2.1 (P_impl_FitsKind_0_2_1002_6007 g0 x3 x2.2.2.1 0)
    else
      some false
  else
    bif decide (x2.1 = 1) then
      Option.bind (P_impl_yatomFits g0 x2.2.1 x3) fun (y6 : Bool) =>
      some y6
    else
      some false
noncomputable def P_impl_FitsKind (g0 : (List ((List Int) × Int))) (a0 : DValue) (a1 : (List Int)) : Option Bool :=
  Option.bind (P_strings_CutPrefix a1 ([115, 101, 116, 32] : List Int)) fun (y1 : ((List Int) × Bool)) =>
  Option.bind (P_strings_CutPrefix y1.1 ([114, 101, 102, 32] : List Int)) fun (y2 : ((List Int) × Bool)) =>
  Option.bind (P_impl_GoodValue a0) fun (y3 : Bool) =>
  bif !(y3) then
    some false
  else
    bif y2.2 then
      Option.bind (P_impl_GoodName y2.1) fun (y4 : Bool) =>
      bif !(y4) then
        some false
      else
        bif !(y2.2) then
          bif decide (getM .str g0 y1.1 0 = 0) then
            some false
          else
            P_impl_FitsKind_1_5 g0 y1.2 a0 y1.1
        else
          P_impl_FitsKind_1_5 g0 y1.2 a0 y1.1
    else
      bif !(y2.2) then
        bif decide (getM .str g0 y1.1 0 = 0) then
          some false
        else
          P_impl_FitsKind_1_5 g0 y1.2 a0 y1.1
      else
        P_impl_FitsKind_1_5 g0 y1.2 a0 y1.1
noncomputable def c_impl_FitsKind (g0 : (List ((List Int) × Int))) : Ctr := ⟨9, [TyValue, .str], [.bool], fun x => P_impl_FitsKind g0 x.1 x.2.1⟩
def A_impl_FitsKind : List (List Nat × Ann) := [([1, 5], [.keep 0 2, .keep 0 5, .keep 0 6, .boxd 0 2 TyValue, .box 0 5 1]), ([0, 2, 1002, 6007], [.keep 0 44, .keep 2 0, .keep 2 1, .keep 2 7, .keep 2 8, .box 0 5 1])]
def In_impl_FitsKind : List (List Nat × Nat) := [([6007], 35), ([1002, 6007], 78), ([4005, 1002, 6007], 36)]
noncomputable def cs_impl_FitsKind (g0 : (List ((List Int) × Int))) : List Ctr := [c_strings_CutPrefix, c_impl_GoodValue, c_impl_GoodName, (c_impl_yatomFits g0)]
noncomputable def F_impl_FitsKind (g0 : (List ((List Int) × Int))) (n : Nat) (a0 : DValue) (a1 : (List Int)) : Option Bool := runE Tryd.prog (glOf [(0, explode (.map .str I64) g0)]) A_impl_FitsKind In_impl_FitsKind (conOf (cs_impl_FitsKind g0)) Tryd.f9 (Tryd.f9.body.getD .skip) (endD Tryd.prog Tryd.f9 (packT [.bool])) n (argsV [TyValue, .str] (a0, a1, ()))
noncomputable abbrev L_impl_FitsKind_1_5 (g0 : (List ((List Int) × Int))) (n : Nat) (x1 : Bool) (x2 : DValue) (x3 : (List Int)) : Option Bool := lamE Tryd.prog (glOf [(0, explode (.map .str I64) g0)]) A_impl_FitsKind In_impl_FitsKind (conOf (cs_impl_FitsKind g0)) Tryd.f9 (Tryd.f9.body.getD .skip) (endD Tryd.prog Tryd.f9 (packT [.bool])) n [1, 5] [.ptr 0 2 0, .ptr 0 5 0, .d .bool x1, .agg (explode TyValue x2), .agg [.d .str x3]]
noncomputable abbrev L_impl_FitsKind_0_2_1002_6007 (g0 : (List ((List Int) × Int))) (n : Nat) (x1 : Bool) (x2 : (List DAtom)) (x3 : Int) (x4 : Int) (x5 : (List Int)) : Option Bool := lamE Tryd.prog (glOf [(0, explode (.map .str I64) g0)]) A_impl_FitsKind In_impl_FitsKind (conOf (cs_impl_FitsKind g0)) Tryd.f9 (Tryd.f9.body.getD .skip) (endD Tryd.prog Tryd.f9 (packT [.bool])) n [0, 2, 1002, 6007] [.d .bool x1, .d (.list TyAtom) x2, .fn 36 [.ptr 0 5 0], .d I64 x3, .d I64 x4, .agg [.d .str x5]]
theorem F_impl_FitsKind_eq (g0 : (List ((List Int) × Int))) (n : Nat) (a0 : DValue) (a1 : (List Int)) : F_impl_FitsKind g0 n a0 a1 =
    Option.bind (P_strings_CutPrefix a1 ([115, 101, 116, 32] : List Int)) fun (y1 : ((List Int) × Bool)) =>
    Option.bind (P_strings_CutPrefix y1.1 ([114, 101, 102, 32] : List Int)) fun (y2 : ((List Int) × Bool)) =>
    Option.bind (P_impl_GoodValue a0) fun (y3 : Bool) =>
    bif !(y3) then
      some false
    else
      bif y2.2 then
        Option.bind (P_impl_GoodName y2.1) fun (y4 : Bool) =>
        bif !(y4) then
          some false
        else
          bif !(y2.2) then
            bif decide (getM .str g0 y1.1 0 = 0) then
              some false
            else
              L_impl_FitsKind_1_5 g0 n y1.2 a0 y1.1
          else
            L_impl_FitsKind_1_5 g0 n y1.2 a0 y1.1
      else
        bif !(y2.2) then
          bif decide (getM .str g0 y1.1 0 = 0) then
            some false
          else
            L_impl_FitsKind_1_5 g0 n y1.2 a0 y1.1
        else
          L_impl_FitsKind_1_5 g0 n y1.2 a0 y1.1 := by kernel_rfl
theorem L_impl_FitsKind_1_5_eq (g0 : (List ((List Int) × Int))) (n : Nat) (x1 : Bool) (x2 : DValue) (x3 : (List Int)) : L_impl_FitsKind_1_5 g0 (n + 1) x1 x2 x3 =
    bif x1 then
      bif decide (x2.1 = 2) then
        L_impl_FitsKind_0_2_1002_6007 g0 n true x2.2.2.1 (x2.2.2.1.length : Int) 0 x3
      else
        some false
    else
      bif decide (x2.1 = 1) then
        Option.bind (P_impl_yatomFits g0 x2.2.1 x3) fun (y6 : Bool) =>
        some y6
      else
        some false := by kernel_rfl
theorem L_impl_FitsKind_0_2_1002_6007_eq (g0 : (List ((List Int) × Int))) (n : Nat) (x1 : Bool) (x2 : (List DAtom)) (x3 : Int) (x4 : Int) (x5 : (List Int)) : L_impl_FitsKind_0_2_1002_6007 g0 (n + 1) x1 x2 x3 x4 x5 =
    bif decide (x4 < x3) then
      bif inB x4 x2.length then
        Option.bind (P_impl_yatomFits g0 (rd x2 x4 (Ty.dflt TyAtom)) x5) fun (y5 : Bool) =>
        bif !(y5) then
          bif x1 then
            some (!decide ((0 : Int) ≤ x4))
          else
            some false
        else
          L_impl_FitsKind_0_2_1002_6007 g0 n x1 x2 x3 (IntKind.wrap .i64 (x4 + 1)) x5
      else none
    else
      bif x1 then
        some true
      else
        some false := by kernel_rfl
theorem S_impl_FitsKind_0_2_1002_6007 {g0 : (List ((List Int) × Int))} {x2 : (List DAtom)} {x5 : (List Int)} (hl : x2.length ≤ maxLen) : ∀ (rest : List DAtom) (k : Nat) (r : Bool), rest = x2.drop k → P_impl_FitsKind_0_2_1002_6007 g0 x5 rest k = some r → Ev (fun n => L_impl_FitsKind_0_2_1002_6007 g0 n true x2 (x2.length : Int) (k : Int) x5) r := by
  intro rest
  induction rest with
  | nil =>
    intro k r hr h
    have hk := drop_nil hr
    rw [P_impl_FitsKind_0_2_1002_6007] at h
    refine Ev.step ?_ (fun n => L_impl_FitsKind_0_2_1002_6007_eq g0 n true x2 (x2.length : Int) (k : Int) x5)
    rw [show decide ((k : Int) < (x2.length : Int)) = false from decide_eq_false (by omega)]
    exact Ev.neg rfl (Ev.pos rfl (Ev.ofSome h))
  | cons e rest ih =>
    intro k r hr h
    obtain ⟨hk, hx, hr2⟩ := drop_cons (d := (Ty.dflt TyAtom)) hr
    have hw := wrap_succ hl hk
    have ih2 : ∀ (r : Bool), P_impl_FitsKind_0_2_1002_6007 g0 x5 rest (k + 1) = some r → Ev (fun n => L_impl_FitsKind_0_2_1002_6007 g0 n true x2 (x2.length : Int) (IntKind.wrap .i64 ((k : Int) + 1)) x5) r := by
      intro r h; rw [hw]; exact ih (k + 1) r hr2 h
    rw [P_impl_FitsKind_0_2_1002_6007] at h
    refine Ev.step ?_ (fun n => L_impl_FitsKind_0_2_1002_6007_eq g0 n true x2 (x2.length : Int) (k : Int) x5)
    rw [show decide ((k : Int) < (x2.length : Int)) = true from decide_eq_true (by omega), inB_nat2 hk, hx]
    exact Ev.pos rfl (Ev.pos rfl (Ev.ofBind h fun y5 h => (Ev.ofBif h (fun h => (Ev.pos rfl (Ev.ofSome h))) (fun h => (ih2  _ h)))))
theorem S_impl_FitsKind_1_5 {g0 : (List ((List Int) × Int))} {x1 : Bool} {x2 : DValue} {x3 : (List Int)} {r : Bool} (h : P_impl_FitsKind_1_5 g0 x1 x2 x3 = some r) : Ev (fun n => L_impl_FitsKind_1_5 g0 n x1 x2 x3) r := by
  rw [P_impl_FitsKind_1_5] at h
  refine Ev.step ?_ (fun n => L_impl_FitsKind_1_5_eq g0 n x1 x2 x3)
  exact (Ev.ofBif h (fun h => (Ev.ofBif h (fun h => (Ev.ofLen h fun hl h => S_impl_FitsKind_0_2_1002_6007 hl _ (0 : Nat) _ rfl h)) (fun h => (Ev.ofSome h)))) (fun h => (Ev.ofBif h (fun h => (Ev.ofBind h fun y6 h => (Ev.ofSome h))) (fun h => (Ev.ofSome h)))))
theorem S_impl_FitsKind {g0 : (List ((List Int) × Int))} (a0 : DValue) (a1 : (List Int)) {r : Bool} (h : P_impl_FitsKind g0 a0 a1 = some r) : Ev (fun n => F_impl_FitsKind g0 n a0 a1) r := by
  rw [P_impl_FitsKind] at h
  refine Ev.of_eq ?_ (fun n => F_impl_FitsKind_eq g0 n a0 a1)
  exact (Ev.ofBind h fun y1 h => (Ev.ofBind h fun y2 h => (Ev.ofBind h fun y3 h => (Ev.ofBif h (fun h => (Ev.ofSome h)) (fun h => (Ev.ofBif h (fun h => (Ev.ofBind h fun y4 h => (Ev.ofBif h (fun h => (Ev.ofSome h)) (fun h => (Ev.ofBif h (fun h => (Ev.ofBif h (fun h => (Ev.ofSome h)) (fun h => (S_impl_FitsKind_1_5 h)))) (fun h => (S_impl_FitsKind_1_5 h))))))) (fun h => (Ev.ofBif h (fun h => (Ev.ofBif h (fun h => (Ev.ofSome h)) (fun h => (S_impl_FitsKind_1_5 h)))) (fun h => (S_impl_FitsKind_1_5 h))))))))))
theorem hcs_impl_FitsKind (g0 : (List ((List Int) × Int))) : ∀ x ∈ cs_impl_FitsKind g0, CtrOkG Tryd.prog (glOf [(0, explode (.map .str I64) g0)]) x := (conOf_cons ok_strings_CutPrefix.any (conOf_cons ok_impl_GoodValue.any (conOf_cons ok_impl_GoodName.any (conOf_cons (ok_impl_yatomFits g0) conOf_nil))))
theorem ok_impl_FitsKind (g0 : (List ((List Int) × Int))) : CtrOkG Tryd.prog (glOf [(0, explode (.map .str I64) g0)]) (c_impl_FitsKind g0) := by
  refine ctr_of_run (c := c_impl_FitsKind g0) (by kernel_rfl) (by kernel_rfl : Tryd.prog.funcs[9]? = some Tryd.f9) (code := Tryd.f9.body.getD .skip) (by kernel_rfl) (by kernel_rfl) (by kernel_rfl) (A := A_impl_FitsKind) (I := In_impl_FitsKind) (hcs_impl_FitsKind g0) ?_
  rintro ⟨a0, a1, u⟩ y hy
  exact (S_impl_FitsKind a0 a1 hy).get

/-! ## laws.szAtom (21) -/
noncomputable def c_laws_szAtom : Ctr := ⟨21, [TyAtom, I64], [I64], fun x => szC TyAtom x.1 x.2.1⟩
def A_laws_szAtom : List (List Nat × Ann) := []
def In_laws_szAtom : List (List Nat × Nat) := []
noncomputable def cs_laws_szAtom : List Ctr := []
noncomputable def F_laws_szAtom (n : Nat) (a0 : DAtom) (a1 : Int) : Option Int := run Tryd.prog A_laws_szAtom In_laws_szAtom (conOf cs_laws_szAtom) Tryd.f21 (Tryd.f21.body.getD .skip) (packT [I64]) n (argsV [TyAtom, I64] (a0, a1, ()))
theorem F_laws_szAtom_eq (n : Nat) (a0 : DAtom) (a1 : Int) : F_laws_szAtom n a0 a1 =
    bif decide (IntKind.wrap .i64 (a1 - (a0.2.2.1.length : Int)) < 0) then
      some (-1)
    else
      bif decide (IntKind.wrap .i64 ((IntKind.wrap .i64 (a1 - (a0.2.2.1.length : Int))) - (a0.2.2.2.length : Int)) < 0) then
        some (-1)
      else
        some (IntKind.wrap .i64 ((IntKind.wrap .i64 (a1 - (a0.2.2.1.length : Int))) - (a0.2.2.2.length : Int))) := by kernel_rfl
theorem mk_laws_szAtom (hcs : ∀ x ∈ cs_laws_szAtom, CtrOk Tryd.prog x) (h : ∀ (a0 : DAtom) (a1 : Int) y, szC TyAtom a0 a1 = some y → ∃ n, F_laws_szAtom n a0 a1 = some y) : CtrOk Tryd.prog c_laws_szAtom := by
  refine ctr_of_run (c := c_laws_szAtom) (by kernel_rfl) (by kernel_rfl : Tryd.prog.funcs[21]? = some Tryd.f21) (code := Tryd.f21.body.getD .skip) (by kernel_rfl) (by kernel_rfl) (by kernel_rfl) (A := A_laws_szAtom) (I := In_laws_szAtom) hcs ?_
  rintro ⟨a0, a1, u⟩ y hy
  exact h a0 a1 y hy

theorem hcs_laws_szAtom : ∀ x ∈ cs_laws_szAtom, CtrOk Tryd.prog x := conOf_nil
theorem ok_laws_szAtom : CtrOk Tryd.prog c_laws_szAtom := mk_laws_szAtom hcs_laws_szAtom fun a0 a1 y hy => by
  obtain ⟨hw, h0, h1, rfl⟩ := szC_inv hy
  have hw2 : wfD I64 a0.1 ∧ wfD I64 a0.2.1 ∧ wfD .str a0.2.2.1 ∧ wfD .str a0.2.2.2 := hw
  have hsz : Ty.size TyAtom a0 = Ty.size I64 a0.1 + (Ty.size I64 a0.2.1 + (Ty.size .str a0.2.2.1 + (Ty.size .str a0.2.2.2))) := rfl
  have z0 : Ty.size I64 a0.1 = 0 := rfl
  have z1 : Ty.size I64 a0.2.1 = 0 := rfl
  have z2 : Ty.size .str a0.2.2.1 = a0.2.2.1.length := rfl
  have z3 : Ty.size .str a0.2.2.2 = a0.2.2.2.length := rfl
  refine ⟨0, ?_⟩
  rw [F_laws_szAtom_eq, hsz]
  have hn2 : a0.2.2.1.length ≤ maxLen := by have := (hw2.2.2.1).1; unfold maxLen; omega
  rw [lessZ_wrap (left := a1) (n := a0.2.2.1.length) (by omega) (by omega) hn2]
  rcases Int.lt_or_le (a1) (a0.2.2.1.length : Int) with h | h
  · rw [decide_eq_true (show (a1 - (a0.2.2.1.length : Int)) < 0 by omega)]; simp only [cond_true]; unfold lessZ; rw [if_neg (by omega)]
  rw [decide_eq_false (show ¬ (a1 - (a0.2.2.1.length : Int)) < 0 by omega)]; simp only [cond_false]
  have h_2 := h; clear h
  have hn3 : a0.2.2.2.length ≤ maxLen := by have := (hw2.2.2.2).1; unfold maxLen; omega
  rw [lessZ_wrap (left := (a1 - (a0.2.2.1.length : Int))) (n := a0.2.2.2.length) (by omega) (by omega) hn3]
  rcases Int.lt_or_le ((a1 - (a0.2.2.1.length : Int))) (a0.2.2.2.length : Int) with h | h
  · rw [decide_eq_true (show ((a1 - (a0.2.2.1.length : Int)) - (a0.2.2.2.length : Int)) < 0 by omega)]; simp only [cond_true]; unfold lessZ; rw [if_neg (by omega)]
  rw [decide_eq_false (show ¬ ((a1 - (a0.2.2.1.length : Int)) - (a0.2.2.2.length : Int)) < 0 by omega)]; simp only [cond_false]
  have h_3 := h; clear h
  unfold lessZ; rw [if_pos (by omega)]; congr 1 <;> omega
/-! ## laws.szAtomS (22) -/
noncomputable def c_laws_szAtomS : Ctr := ⟨22, [(.list TyAtom), I64], [I64], fun x => szC (.list TyAtom) x.1 x.2.1⟩
def A_laws_szAtomS : List (List Nat × Ann) := [([0, 5], [.keep 0 0, .keep 0 1, .keep 0 5])]
def In_laws_szAtomS : List (List Nat × Nat) := []
noncomputable def cs_laws_szAtomS : List Ctr := [c_laws_szAtom]
noncomputable def F_laws_szAtomS (n : Nat) (a0 : (List DAtom)) (a1 : Int) : Option Int := run Tryd.prog A_laws_szAtomS In_laws_szAtomS (conOf cs_laws_szAtomS) Tryd.f22 (Tryd.f22.body.getD .skip) (packT [I64]) n (argsV [(.list TyAtom), I64] (a0, a1, ()))
noncomputable abbrev L_laws_szAtomS_0_5 (n : Nat) (x1 : (List DAtom)) (x2 : Int) (x3 : Int) : Option Int := lam Tryd.prog A_laws_szAtomS In_laws_szAtomS (conOf cs_laws_szAtomS) Tryd.f22 (Tryd.f22.body.getD .skip) (packT [I64]) n [0, 5] [.d (.list TyAtom) x1, .d I64 x2, .d I64 x3]
theorem F_laws_szAtomS_eq (n : Nat) (a0 : (List DAtom)) (a1 : Int) : F_laws_szAtomS n a0 a1 =
    bif decide (IntKind.wrap .i64 (a1 - (a0.length : Int)) < 0) then
      some (-1)
    else
      L_laws_szAtomS_0_5 n a0 (IntKind.wrap .i64 (a1 - (a0.length : Int))) 0 := by kernel_rfl
theorem L_laws_szAtomS_0_5_eq (n : Nat) (x1 : (List DAtom)) (x2 : Int) (x3 : Int) : L_laws_szAtomS_0_5 (n + 1) x1 x2 x3 =
    bif decide (x3 < (x1.length : Int)) then
      bif inB x3 x1.length then
        Option.bind (szC TyAtom (rd x1 x3 (Ty.dflt TyAtom)) x2) fun (y1 : Int) =>
        bif decide (y1 < 0) then
          some (-1)
        else
          L_laws_szAtomS_0_5 n x1 y1 (IntKind.wrap .i64 (x3 + 1))
      else none
    else
      some x2 := by kernel_rfl
theorem mk_laws_szAtomS (hcs : ∀ x ∈ cs_laws_szAtomS, CtrOk Tryd.prog x) (h : ∀ (a0 : (List DAtom)) (a1 : Int) y, szC (.list TyAtom) a0 a1 = some y → ∃ n, F_laws_szAtomS n a0 a1 = some y) : CtrOk Tryd.prog c_laws_szAtomS := by
  refine ctr_of_run (c := c_laws_szAtomS) (by kernel_rfl) (by kernel_rfl : Tryd.prog.funcs[22]? = some Tryd.f22) (code := Tryd.f22.body.getD .skip) (by kernel_rfl) (by kernel_rfl) (by kernel_rfl) (A := A_laws_szAtomS) (I := In_laws_szAtomS) hcs ?_
  rintro ⟨a0, a1, u⟩ y hy
  exact h a0 a1 y hy

theorem hcs_laws_szAtomS : ∀ x ∈ cs_laws_szAtomS, CtrOk Tryd.prog x := (conOf_cons ok_laws_szAtom conOf_nil)
theorem ok_laws_szAtomS : CtrOk Tryd.prog c_laws_szAtomS := mk_laws_szAtomS hcs_laws_szAtomS fun a0 a1 y hy => by
  obtain ⟨n, hn⟩ := szS_call (fun n xs s i => L_laws_szAtomS_0_5_eq n xs s i) hy
  exact ⟨n, (F_laws_szAtomS_eq n a0 a1).trans hn⟩
/-! ## laws.szStringS (23) -/
noncomputable def c_laws_szStringS : Ctr := ⟨23, [(.list .str), I64], [I64], fun x => szC (.list .str) x.1 x.2.1⟩
def A_laws_szStringS : List (List Nat × Ann) := [([0, 5], [.keep 0 0, .keep 0 1, .keep 0 5])]
def In_laws_szStringS : List (List Nat × Nat) := []
noncomputable def cs_laws_szStringS : List Ctr := []
noncomputable def F_laws_szStringS (n : Nat) (a0 : (List (List Int))) (a1 : Int) : Option Int := run Tryd.prog A_laws_szStringS In_laws_szStringS (conOf cs_laws_szStringS) Tryd.f23 (Tryd.f23.body.getD .skip) (packT [I64]) n (argsV [(.list .str), I64] (a0, a1, ()))
noncomputable abbrev L_laws_szStringS_0_5 (n : Nat) (x1 : (List (List Int))) (x2 : Int) (x3 : Int) : Option Int := lam Tryd.prog A_laws_szStringS In_laws_szStringS (conOf cs_laws_szStringS) Tryd.f23 (Tryd.f23.body.getD .skip) (packT [I64]) n [0, 5] [.d (.list .str) x1, .d I64 x2, .d I64 x3]
theorem F_laws_szStringS_eq (n : Nat) (a0 : (List (List Int))) (a1 : Int) : F_laws_szStringS n a0 a1 =
    bif decide (IntKind.wrap .i64 (a1 - (a0.length : Int)) < 0) then
      some (-1)
    else
      L_laws_szStringS_0_5 n a0 (IntKind.wrap .i64 (a1 - (a0.length : Int))) 0 := by kernel_rfl
theorem L_laws_szStringS_0_5_eq (n : Nat) (x1 : (List (List Int))) (x2 : Int) (x3 : Int) : L_laws_szStringS_0_5 (n + 1) x1 x2 x3 =
    bif decide (x3 < (x1.length : Int)) then
      bif inB x3 x1.length then
        bif decide (IntKind.wrap .i64 (x2 - ((rd x1 x3 (Ty.dflt .str)).length : Int)) < 0) then
          some (-1)
        else
          L_laws_szStringS_0_5 n x1 (IntKind.wrap .i64 (x2 - ((rd x1 x3 (Ty.dflt .str)).length : Int))) (IntKind.wrap .i64 (x3 + 1))
      else none
    else
      some x2 := by kernel_rfl
theorem mk_laws_szStringS (hcs : ∀ x ∈ cs_laws_szStringS, CtrOk Tryd.prog x) (h : ∀ (a0 : (List (List Int))) (a1 : Int) y, szC (.list .str) a0 a1 = some y → ∃ n, F_laws_szStringS n a0 a1 = some y) : CtrOk Tryd.prog c_laws_szStringS := by
  refine ctr_of_run (c := c_laws_szStringS) (by kernel_rfl) (by kernel_rfl : Tryd.prog.funcs[23]? = some Tryd.f23) (code := Tryd.f23.body.getD .skip) (by kernel_rfl) (by kernel_rfl) (by kernel_rfl) (A := A_laws_szStringS) (I := In_laws_szStringS) hcs ?_
  rintro ⟨a0, a1, u⟩ y hy
  exact h a0 a1 y hy

theorem hcs_laws_szStringS : ∀ x ∈ cs_laws_szStringS, CtrOk Tryd.prog x := conOf_nil
theorem ok_laws_szStringS : CtrOk Tryd.prog c_laws_szStringS := mk_laws_szStringS hcs_laws_szStringS fun a0 a1 y hy => by
  obtain ⟨n, hn⟩ := szS_str (fun n xs s i => L_laws_szStringS_0_5_eq n xs s i) hy
  exact ⟨n, (F_laws_szStringS_eq n a0 a1).trans hn⟩
/-! ## laws.szValue (6) -/
noncomputable def c_laws_szValue : Ctr := ⟨6, [TyValue, I64], [I64], fun x => szC TyValue x.1 x.2.1⟩
def A_laws_szValue : List (List Nat × Ann) := []
def In_laws_szValue : List (List Nat × Nat) := []
noncomputable def cs_laws_szValue : List Ctr := [c_laws_szAtom, c_laws_szAtomS, c_laws_szStringS]
noncomputable def F_laws_szValue (n : Nat) (a0 : DValue) (a1 : Int) : Option Int := run Tryd.prog A_laws_szValue In_laws_szValue (conOf cs_laws_szValue) Tryd.f6 (Tryd.f6.body.getD .skip) (packT [I64]) n (argsV [TyValue, I64] (a0, a1, ()))
theorem F_laws_szValue_eq (n : Nat) (a0 : DValue) (a1 : Int) : F_laws_szValue n a0 a1 =
    Option.bind (szC TyAtom a0.2.1 a1) fun (y1 : Int) =>
    bif decide (y1 < 0) then
      some (-1)
    else
      Option.bind (szC (.list TyAtom) a0.2.2.1 y1) fun (y2 : Int) =>
      bif decide (y2 < 0) then
        some (-1)
      else
        Option.bind (szC (.list .str) a0.2.2.2 y2) fun (y3 : Int) =>
        bif decide (y3 < 0) then
          some (-1)
        else
          some y3 := by kernel_rfl
theorem mk_laws_szValue (hcs : ∀ x ∈ cs_laws_szValue, CtrOk Tryd.prog x) (h : ∀ (a0 : DValue) (a1 : Int) y, szC TyValue a0 a1 = some y → ∃ n, F_laws_szValue n a0 a1 = some y) : CtrOk Tryd.prog c_laws_szValue := by
  refine ctr_of_run (c := c_laws_szValue) (by kernel_rfl) (by kernel_rfl : Tryd.prog.funcs[6]? = some Tryd.f6) (code := Tryd.f6.body.getD .skip) (by kernel_rfl) (by kernel_rfl) (by kernel_rfl) (A := A_laws_szValue) (I := In_laws_szValue) hcs ?_
  rintro ⟨a0, a1, u⟩ y hy
  exact h a0 a1 y hy

theorem hcs_laws_szValue : ∀ x ∈ cs_laws_szValue, CtrOk Tryd.prog x := (conOf_cons ok_laws_szAtom (conOf_cons ok_laws_szAtomS (conOf_cons ok_laws_szStringS conOf_nil)))
theorem ok_laws_szValue : CtrOk Tryd.prog c_laws_szValue := mk_laws_szValue hcs_laws_szValue fun a0 a1 y hy => by
  obtain ⟨hw, h0, h1, rfl⟩ := szC_inv hy
  have hw2 : wfD I64 a0.1 ∧ wfD TyAtom a0.2.1 ∧ wfD (.list TyAtom) a0.2.2.1 ∧ wfD (.list .str) a0.2.2.2 := hw
  have hsz : Ty.size TyValue a0 = Ty.size I64 a0.1 + (Ty.size TyAtom a0.2.1 + (Ty.size (.list TyAtom) a0.2.2.1 + (Ty.size (.list .str) a0.2.2.2))) := rfl
  have z0 : Ty.size I64 a0.1 = 0 := rfl
  refine ⟨0, ?_⟩
  rw [F_laws_szValue_eq, hsz]
  rw [szC_some hw2.2.1 (show 0 ≤ a1 by omega) (by omega)]
  simp only [Option.bind_some]
  rcases Int.lt_or_le (a1) ((Ty.size TyAtom a0.2.1 : Nat) : Int) with h | h
  · rw [show lessZ (a1) (Ty.size TyAtom a0.2.1) = -1 by unfold lessZ; rw [if_neg (by omega)]]; rw [decide_eq_true (show (-1 : Int) < 0 by omega)]; simp only [cond_true]; unfold lessZ; rw [if_neg (by omega)]
  rw [show lessZ (a1) (Ty.size TyAtom a0.2.1) = (a1 - ((Ty.size TyAtom a0.2.1 : Nat) : Int)) by unfold lessZ; rw [if_pos h]]; rw [decide_eq_false (show ¬ (a1 - ((Ty.size TyAtom a0.2.1 : Nat) : Int)) < 0 by omega)]; simp only [cond_false]
  have h_1 := h; clear h
  rw [szC_some hw2.2.2.1 (show 0 ≤ (a1 - ((Ty.size TyAtom a0.2.1 : Nat) : Int)) by omega) (by omega)]
  simp only [Option.bind_some]
  rcases Int.lt_or_le ((a1 - ((Ty.size TyAtom a0.2.1 : Nat) : Int))) ((Ty.size (.list TyAtom) a0.2.2.1 : Nat) : Int) with h | h
  · rw [show lessZ ((a1 - ((Ty.size TyAtom a0.2.1 : Nat) : Int))) (Ty.size (.list TyAtom) a0.2.2.1) = -1 by unfold lessZ; rw [if_neg (by omega)]]; rw [decide_eq_true (show (-1 : Int) < 0 by omega)]; simp only [cond_true]; unfold lessZ; rw [if_neg (by omega)]
  rw [show lessZ ((a1 - ((Ty.size TyAtom a0.2.1 : Nat) : Int))) (Ty.size (.list TyAtom) a0.2.2.1) = ((a1 - ((Ty.size TyAtom a0.2.1 : Nat) : Int)) - ((Ty.size (.list TyAtom) a0.2.2.1 : Nat) : Int)) by unfold lessZ; rw [if_pos h]]; rw [decide_eq_false (show ¬ ((a1 - ((Ty.size TyAtom a0.2.1 : Nat) : Int)) - ((Ty.size (.list TyAtom) a0.2.2.1 : Nat) : Int)) < 0 by omega)]; simp only [cond_false]
  have h_2 := h; clear h
  rw [szC_some hw2.2.2.2 (show 0 ≤ ((a1 - ((Ty.size TyAtom a0.2.1 : Nat) : Int)) - ((Ty.size (.list TyAtom) a0.2.2.1 : Nat) : Int)) by omega) (by omega)]
  simp only [Option.bind_some]
  rcases Int.lt_or_le (((a1 - ((Ty.size TyAtom a0.2.1 : Nat) : Int)) - ((Ty.size (.list TyAtom) a0.2.2.1 : Nat) : Int))) ((Ty.size (.list .str) a0.2.2.2 : Nat) : Int) with h | h
  · rw [show lessZ (((a1 - ((Ty.size TyAtom a0.2.1 : Nat) : Int)) - ((Ty.size (.list TyAtom) a0.2.2.1 : Nat) : Int))) (Ty.size (.list .str) a0.2.2.2) = -1 by unfold lessZ; rw [if_neg (by omega)]]; rw [decide_eq_true (show (-1 : Int) < 0 by omega)]; simp only [cond_true]; unfold lessZ; rw [if_neg (by omega)]
  rw [show lessZ (((a1 - ((Ty.size TyAtom a0.2.1 : Nat) : Int)) - ((Ty.size (.list TyAtom) a0.2.2.1 : Nat) : Int))) (Ty.size (.list .str) a0.2.2.2) = (((a1 - ((Ty.size TyAtom a0.2.1 : Nat) : Int)) - ((Ty.size (.list TyAtom) a0.2.2.1 : Nat) : Int)) - ((Ty.size (.list .str) a0.2.2.2 : Nat) : Int)) by unfold lessZ; rw [if_pos h]]; rw [decide_eq_false (show ¬ (((a1 - ((Ty.size TyAtom a0.2.1 : Nat) : Int)) - ((Ty.size (.list TyAtom) a0.2.2.1 : Nat) : Int)) - ((Ty.size (.list .str) a0.2.2.2 : Nat) : Int)) < 0 by omega)]; simp only [cond_false]
  have h_3 := h; clear h
  unfold lessZ; rw [if_pos (by omega)]; congr 1 <;> omega
/-! ## laws.toAtom (29) -/
noncomputable def c_laws_toAtom : Ctr := ⟨29, [TyAtom], [TyAtom], fun x => toC TyAtom x.1⟩
def A_laws_toAtom : List (List Nat × Ann) := []
def In_laws_toAtom : List (List Nat × Nat) := []
noncomputable def cs_laws_toAtom : List Ctr := []
noncomputable def F_laws_toAtom (n : Nat) (a0 : DAtom) : Option DAtom := run Tryd.prog A_laws_toAtom In_laws_toAtom (conOf cs_laws_toAtom) Tryd.f29 (Tryd.f29.body.getD .skip) (packT [TyAtom]) n (argsV [TyAtom] (a0, ()))
theorem F_laws_toAtom_eq (n : Nat) (a0 : DAtom) : F_laws_toAtom n a0 =
    some a0 := by kernel_rfl
theorem mk_laws_toAtom (hcs : ∀ x ∈ cs_laws_toAtom, CtrOk Tryd.prog x) (h : ∀ (a0 : DAtom) y, toC TyAtom a0 = some y → ∃ n, F_laws_toAtom n a0 = some y) : CtrOk Tryd.prog c_laws_toAtom := by
  refine ctr_of_run (c := c_laws_toAtom) (by kernel_rfl) (by kernel_rfl : Tryd.prog.funcs[29]? = some Tryd.f29) (code := Tryd.f29.body.getD .skip) (by kernel_rfl) (by kernel_rfl) (by kernel_rfl) (A := A_laws_toAtom) (I := In_laws_toAtom) hcs ?_
  rintro ⟨a0, u⟩ y hy
  exact h a0 y hy

theorem hcs_laws_toAtom : ∀ x ∈ cs_laws_toAtom, CtrOk Tryd.prog x := conOf_nil
theorem ok_laws_toAtom : CtrOk Tryd.prog c_laws_toAtom := mk_laws_toAtom hcs_laws_toAtom fun a0 y hy => by
  obtain ⟨hw, hs, rfl⟩ := toC_inv hy
  have hw2 : wfD I64 y.1 ∧ wfD I64 y.2.1 ∧ wfD .str y.2.2.1 ∧ wfD .str y.2.2.2 := hw
  have hs2 : Ty.size I64 y.1 + (Ty.size I64 y.2.1 + (Ty.size .str y.2.2.1 + (Ty.size .str y.2.2.2))) ≤ 1073741824 := hs
  refine ⟨0, ?_⟩
  rw [F_laws_toAtom_eq]
  try rfl
/-! ## laws.toAtomS (30) -/
noncomputable def c_laws_toAtomS : Ctr := ⟨30, [(.list TyAtom)], [(.list TyAtom)], fun x => toC (.list TyAtom) x.1⟩
def A_laws_toAtomS : List (List Nat × Ann) := [([0, 3], [.keep 0 0, .keep 0 3, .keep 0 4, .rows 0 7 TyAtom])]
def In_laws_toAtomS : List (List Nat × Nat) := []
noncomputable def cs_laws_toAtomS : List Ctr := [c_laws_toAtom]
noncomputable def F_laws_toAtomS (n : Nat) (a0 : (List DAtom)) : Option (List DAtom) := run Tryd.prog A_laws_toAtomS In_laws_toAtomS (conOf cs_laws_toAtomS) Tryd.f30 (Tryd.f30.body.getD .skip) (packT [(.list TyAtom)]) n (argsV [(.list TyAtom)] (a0, ()))
noncomputable abbrev L_laws_toAtomS_0_3 (n : Nat) (x1 : (List DAtom)) (x2 : Int) (x3 : (List DAtom)) : Option (List DAtom) := lam Tryd.prog A_laws_toAtomS In_laws_toAtomS (conOf cs_laws_toAtomS) Tryd.f30 (Tryd.f30.body.getD .skip) (packT [(.list TyAtom)]) n [0, 3] [.d (.list TyAtom) x1, .msl 0 7, .d I64 x2, .d (.list TyAtom) x3]
theorem F_laws_toAtomS_eq (n : Nat) (a0 : (List DAtom)) : F_laws_toAtomS n a0 =
    bif decide ((a0.length : Int) = (a0.length : Int)) && decide ((0 : Int) ≤ (a0.length : Int)) && decide ((a0.length : Int) * 48 ≤ room) && true then
      L_laws_toAtomS_0_3 n a0 0 (List.replicate (Int.toNat (a0.length : Int)) (0, 0, ([] : List Int), ([] : List Int)))
    else none := by kernel_rfl
theorem L_laws_toAtomS_0_3_eq (n : Nat) (x1 : (List DAtom)) (x2 : Int) (x3 : (List DAtom)) : L_laws_toAtomS_0_3 (n + 1) x1 x2 x3 =
    bif decide (x2 < (x1.length : Int)) then
      bif inB x2 x1.length then
        Option.bind (toC TyAtom (rd x1 x2 (Ty.dflt TyAtom))) fun (y1 : DAtom) =>
        bif inB x2 x3.length then
          bif inB x2 x3.length && true && true && true && true then
            L_laws_toAtomS_0_3 n x1 (IntKind.wrap .i64 (x2 + 1)) (x3.set (Int.toNat x2) y1)
          else none
        else none
      else none
    else
      some x3 := by kernel_rfl
theorem mk_laws_toAtomS (hcs : ∀ x ∈ cs_laws_toAtomS, CtrOk Tryd.prog x) (h : ∀ (a0 : (List DAtom)) y, toC (.list TyAtom) a0 = some y → ∃ n, F_laws_toAtomS n a0 = some y) : CtrOk Tryd.prog c_laws_toAtomS := by
  refine ctr_of_run (c := c_laws_toAtomS) (by kernel_rfl) (by kernel_rfl : Tryd.prog.funcs[30]? = some Tryd.f30) (code := Tryd.f30.body.getD .skip) (by kernel_rfl) (by kernel_rfl) (by kernel_rfl) (A := A_laws_toAtomS) (I := In_laws_toAtomS) hcs ?_
  rintro ⟨a0, u⟩ y hy
  exact h a0 y hy

theorem hcs_laws_toAtomS : ∀ x ∈ cs_laws_toAtomS, CtrOk Tryd.prog x := (conOf_cons ok_laws_toAtom conOf_nil)
theorem ok_laws_toAtomS : CtrOk Tryd.prog c_laws_toAtomS := mk_laws_toAtomS hcs_laws_toAtomS fun a0 y hy => by
  obtain ⟨n, hn⟩ := toS_ok (t := TyAtom) (f := toC TyAtom) (fun x h h2 => toC_some h h2) (by_ := 48) (by omega) (fun n xs i out => L_laws_toAtomS_0_3_eq n xs i out) hy
  exact ⟨n, (F_laws_toAtomS_eq n a0).trans hn⟩
/-! ## laws.toStringS (31) -/
noncomputable def c_laws_toStringS : Ctr := ⟨31, [(.list .str)], [(.list .str)], fun x => toC (.list .str) x.1⟩
def A_laws_toStringS : List (List Nat × Ann) := [([0, 3], [.keep 0 0, .keep 0 3, .keep 0 4, .rows 0 7 .str])]
def In_laws_toStringS : List (List Nat × Nat) := []
noncomputable def cs_laws_toStringS : List Ctr := []
noncomputable def F_laws_toStringS (n : Nat) (a0 : (List (List Int))) : Option (List (List Int)) := run Tryd.prog A_laws_toStringS In_laws_toStringS (conOf cs_laws_toStringS) Tryd.f31 (Tryd.f31.body.getD .skip) (packT [(.list .str)]) n (argsV [(.list .str)] (a0, ()))
noncomputable abbrev L_laws_toStringS_0_3 (n : Nat) (x1 : (List (List Int))) (x2 : Int) (x3 : (List (List Int))) : Option (List (List Int)) := lam Tryd.prog A_laws_toStringS In_laws_toStringS (conOf cs_laws_toStringS) Tryd.f31 (Tryd.f31.body.getD .skip) (packT [(.list .str)]) n [0, 3] [.d (.list .str) x1, .msl 0 7, .d I64 x2, .d (.list .str) x3]
theorem F_laws_toStringS_eq (n : Nat) (a0 : (List (List Int))) : F_laws_toStringS n a0 =
    bif decide ((a0.length : Int) = (a0.length : Int)) && decide ((0 : Int) ≤ (a0.length : Int)) && decide ((a0.length : Int) * 16 ≤ room) && true then
      L_laws_toStringS_0_3 n a0 0 (List.replicate (Int.toNat (a0.length : Int)) ([] : List Int))
    else none := by kernel_rfl
theorem L_laws_toStringS_0_3_eq (n : Nat) (x1 : (List (List Int))) (x2 : Int) (x3 : (List (List Int))) : L_laws_toStringS_0_3 (n + 1) x1 x2 x3 =
    bif decide (x2 < (x1.length : Int)) then
      bif inB x2 x1.length then
        bif inB x2 x3.length then
          bif inB x2 x3.length && true && true && true && true then
            L_laws_toStringS_0_3 n x1 (IntKind.wrap .i64 (x2 + 1)) (x3.set (Int.toNat x2) (rd x1 x2 (Ty.dflt .str)))
          else none
        else none
      else none
    else
      some x3 := by kernel_rfl
theorem mk_laws_toStringS (hcs : ∀ x ∈ cs_laws_toStringS, CtrOk Tryd.prog x) (h : ∀ (a0 : (List (List Int))) y, toC (.list .str) a0 = some y → ∃ n, F_laws_toStringS n a0 = some y) : CtrOk Tryd.prog c_laws_toStringS := by
  refine ctr_of_run (c := c_laws_toStringS) (by kernel_rfl) (by kernel_rfl : Tryd.prog.funcs[31]? = some Tryd.f31) (code := Tryd.f31.body.getD .skip) (by kernel_rfl) (by kernel_rfl) (by kernel_rfl) (A := A_laws_toStringS) (I := In_laws_toStringS) hcs ?_
  rintro ⟨a0, u⟩ y hy
  exact h a0 y hy

theorem hcs_laws_toStringS : ∀ x ∈ cs_laws_toStringS, CtrOk Tryd.prog x := conOf_nil
theorem ok_laws_toStringS : CtrOk Tryd.prog c_laws_toStringS := mk_laws_toStringS hcs_laws_toStringS fun a0 y hy => by
  obtain ⟨n, hn⟩ := toS_ok (t := .str) (f := fun x => some x) (fun x _ _ => rfl) (by_ := 16) (by omega) (fun n xs i out => L_laws_toStringS_0_3_eq n xs i out) hy
  exact ⟨n, (F_laws_toStringS_eq n a0).trans hn⟩
/-! ## laws.toValue (8) -/
noncomputable def c_laws_toValue : Ctr := ⟨8, [TyValue], [TyValue], fun x => toC TyValue x.1⟩
def A_laws_toValue : List (List Nat × Ann) := []
def In_laws_toValue : List (List Nat × Nat) := []
noncomputable def cs_laws_toValue : List Ctr := [c_laws_toAtom, c_laws_toAtomS, c_laws_toStringS]
noncomputable def F_laws_toValue (n : Nat) (a0 : DValue) : Option DValue := run Tryd.prog A_laws_toValue In_laws_toValue (conOf cs_laws_toValue) Tryd.f8 (Tryd.f8.body.getD .skip) (packT [TyValue]) n (argsV [TyValue] (a0, ()))
theorem F_laws_toValue_eq (n : Nat) (a0 : DValue) : F_laws_toValue n a0 =
    Option.bind (toC TyAtom a0.2.1) fun (y1 : DAtom) =>
    Option.bind (toC (.list TyAtom) a0.2.2.1) fun (y2 : (List DAtom)) =>
    Option.bind (toC (.list .str) a0.2.2.2) fun (y3 : (List (List Int))) =>
    some (a0.1, y1, y2, y3) := by kernel_rfl
theorem mk_laws_toValue (hcs : ∀ x ∈ cs_laws_toValue, CtrOk Tryd.prog x) (h : ∀ (a0 : DValue) y, toC TyValue a0 = some y → ∃ n, F_laws_toValue n a0 = some y) : CtrOk Tryd.prog c_laws_toValue := by
  refine ctr_of_run (c := c_laws_toValue) (by kernel_rfl) (by kernel_rfl : Tryd.prog.funcs[8]? = some Tryd.f8) (code := Tryd.f8.body.getD .skip) (by kernel_rfl) (by kernel_rfl) (by kernel_rfl) (A := A_laws_toValue) (I := In_laws_toValue) hcs ?_
  rintro ⟨a0, u⟩ y hy
  exact h a0 y hy

theorem hcs_laws_toValue : ∀ x ∈ cs_laws_toValue, CtrOk Tryd.prog x := (conOf_cons ok_laws_toAtom (conOf_cons ok_laws_toAtomS (conOf_cons ok_laws_toStringS conOf_nil)))
theorem ok_laws_toValue : CtrOk Tryd.prog c_laws_toValue := mk_laws_toValue hcs_laws_toValue fun a0 y hy => by
  obtain ⟨hw, hs, rfl⟩ := toC_inv hy
  have hw2 : wfD I64 y.1 ∧ wfD TyAtom y.2.1 ∧ wfD (.list TyAtom) y.2.2.1 ∧ wfD (.list .str) y.2.2.2 := hw
  have hs2 : Ty.size I64 y.1 + (Ty.size TyAtom y.2.1 + (Ty.size (.list TyAtom) y.2.2.1 + (Ty.size (.list .str) y.2.2.2))) ≤ 1073741824 := hs
  refine ⟨0, ?_⟩
  rw [F_laws_toValue_eq]
  try (rw [toC_some hw2.2.1 (by omega)]; simp only [Option.bind_some])
  try (rw [toC_some hw2.2.2.1 (by omega)]; simp only [Option.bind_some])
  try (rw [toC_some hw2.2.2.2 (by omega)]; simp only [Option.bind_some])
  try rfl
/-! ## laws.eqAtom (38) -/
noncomputable def c_laws_eqAtom : Ctr := ⟨38, [TyAtom, TyAtom], [.bool], fun x => eqC TyAtom x.1 x.2.1⟩
def A_laws_eqAtom : List (List Nat × Ann) := []
def In_laws_eqAtom : List (List Nat × Nat) := []
noncomputable def cs_laws_eqAtom : List Ctr := []
noncomputable def F_laws_eqAtom (n : Nat) (a0 : DAtom) (a1 : DAtom) : Option Bool := run Tryd.prog A_laws_eqAtom In_laws_eqAtom (conOf cs_laws_eqAtom) Tryd.f38 (Tryd.f38.body.getD .skip) (packT [.bool]) n (argsV [TyAtom, TyAtom] (a0, a1, ()))
theorem F_laws_eqAtom_eq (n : Nat) (a0 : DAtom) (a1 : DAtom) : F_laws_eqAtom n a0 a1 =
    bif !decide (a0.1 = a1.1) then
      some false
    else
      bif !decide (a0.2.1 = a1.2.1) then
        some false
      else
        bif !decide (a0.2.2.1 = a1.2.2.1) then
          some false
        else
          bif !decide (a0.2.2.2 = a1.2.2.2) then
            some false
          else
            some true := by kernel_rfl
theorem mk_laws_eqAtom (hcs : ∀ x ∈ cs_laws_eqAtom, CtrOk Tryd.prog x) (h : ∀ (a0 : DAtom) (a1 : DAtom) y, eqC TyAtom a0 a1 = some y → ∃ n, F_laws_eqAtom n a0 a1 = some y) : CtrOk Tryd.prog c_laws_eqAtom := by
  refine ctr_of_run (c := c_laws_eqAtom) (by kernel_rfl) (by kernel_rfl : Tryd.prog.funcs[38]? = some Tryd.f38) (code := Tryd.f38.body.getD .skip) (by kernel_rfl) (by kernel_rfl) (by kernel_rfl) (A := A_laws_eqAtom) (I := In_laws_eqAtom) hcs ?_
  rintro ⟨a0, a1, u⟩ y hy
  exact h a0 a1 y hy

theorem hcs_laws_eqAtom : ∀ x ∈ cs_laws_eqAtom, CtrOk Tryd.prog x := conOf_nil
theorem ok_laws_eqAtom : CtrOk Tryd.prog c_laws_eqAtom := mk_laws_eqAtom hcs_laws_eqAtom fun a0 a1 y hy => by
  obtain ⟨rfl, hw, rfl⟩ := eqC_inv hy
  have hw2 : wfD I64 a0.1 ∧ wfD I64 a0.2.1 ∧ wfD .str a0.2.2.1 ∧ wfD .str a0.2.2.2 := hw
  refine ⟨0, ?_⟩
  rw [F_laws_eqAtom_eq]
  simp []
/-! ## laws.eqAtomS (39) -/
noncomputable def c_laws_eqAtomS : Ctr := ⟨39, [(.list TyAtom), (.list TyAtom)], [.bool], fun x => eqC (.list TyAtom) x.1 x.2.1⟩
def A_laws_eqAtomS : List (List Nat × Ann) := [([0, 4], [.keep 0 0, .keep 0 1, .keep 0 5])]
def In_laws_eqAtomS : List (List Nat × Nat) := []
noncomputable def cs_laws_eqAtomS : List Ctr := [c_laws_eqAtom]
noncomputable def F_laws_eqAtomS (n : Nat) (a0 : (List DAtom)) (a1 : (List DAtom)) : Option Bool := run Tryd.prog A_laws_eqAtomS In_laws_eqAtomS (conOf cs_laws_eqAtomS) Tryd.f39 (Tryd.f39.body.getD .skip) (packT [.bool]) n (argsV [(.list TyAtom), (.list TyAtom)] (a0, a1, ()))
noncomputable abbrev L_laws_eqAtomS_0_4 (n : Nat) (x1 : (List DAtom)) (x2 : (List DAtom)) (x3 : Int) : Option Bool := lam Tryd.prog A_laws_eqAtomS In_laws_eqAtomS (conOf cs_laws_eqAtomS) Tryd.f39 (Tryd.f39.body.getD .skip) (packT [.bool]) n [0, 4] [.d (.list TyAtom) x1, .d (.list TyAtom) x2, .d I64 x3]
theorem F_laws_eqAtomS_eq (n : Nat) (a0 : (List DAtom)) (a1 : (List DAtom)) : F_laws_eqAtomS n a0 a1 =
    bif !decide ((a0.length : Int) = (a1.length : Int)) then
      some false
    else
      L_laws_eqAtomS_0_4 n a0 a1 0 := by kernel_rfl
theorem L_laws_eqAtomS_0_4_eq (n : Nat) (x1 : (List DAtom)) (x2 : (List DAtom)) (x3 : Int) : L_laws_eqAtomS_0_4 (n + 1) x1 x2 x3 =
    bif decide (x3 < (x1.length : Int)) then
      bif inB x3 x1.length then
        bif inB x3 x2.length then
          Option.bind (eqC TyAtom (rd x1 x3 (Ty.dflt TyAtom)) (rd x2 x3 (Ty.dflt TyAtom))) fun (y1 : Bool) =>
          bif !(y1) then
            some false
          else
            L_laws_eqAtomS_0_4 n x1 x2 (IntKind.wrap .i64 (x3 + 1))
        else none
      else none
    else
      some true := by kernel_rfl
theorem mk_laws_eqAtomS (hcs : ∀ x ∈ cs_laws_eqAtomS, CtrOk Tryd.prog x) (h : ∀ (a0 : (List DAtom)) (a1 : (List DAtom)) y, eqC (.list TyAtom) a0 a1 = some y → ∃ n, F_laws_eqAtomS n a0 a1 = some y) : CtrOk Tryd.prog c_laws_eqAtomS := by
  refine ctr_of_run (c := c_laws_eqAtomS) (by kernel_rfl) (by kernel_rfl : Tryd.prog.funcs[39]? = some Tryd.f39) (code := Tryd.f39.body.getD .skip) (by kernel_rfl) (by kernel_rfl) (by kernel_rfl) (A := A_laws_eqAtomS) (I := In_laws_eqAtomS) hcs ?_
  rintro ⟨a0, a1, u⟩ y hy
  exact h a0 a1 y hy

theorem hcs_laws_eqAtomS : ∀ x ∈ cs_laws_eqAtomS, CtrOk Tryd.prog x := (conOf_cons ok_laws_eqAtom conOf_nil)
theorem ok_laws_eqAtomS : CtrOk Tryd.prog c_laws_eqAtomS := mk_laws_eqAtomS hcs_laws_eqAtomS fun a0 a1 y hy => by
  obtain ⟨n, hn⟩ := eqS_ok (t := TyAtom) (body := fun x y K => Option.bind (eqC TyAtom x y) fun b => bif !b then some false else K ()) (fun x K h => by simp only [eqC_some h, Option.bind_some, Bool.not_true, cond_false]) (fun n xs ys i => L_laws_eqAtomS_0_4_eq n xs ys i) hy
  exact ⟨n, (F_laws_eqAtomS_eq n a0 a1).trans hn⟩
/-! ## laws.eqStringS (40) -/
noncomputable def c_laws_eqStringS : Ctr := ⟨40, [(.list .str), (.list .str)], [.bool], fun x => eqC (.list .str) x.1 x.2.1⟩
def A_laws_eqStringS : List (List Nat × Ann) := [([0, 4], [.keep 0 0, .keep 0 1, .keep 0 5])]
def In_laws_eqStringS : List (List Nat × Nat) := []
noncomputable def cs_laws_eqStringS : List Ctr := []
noncomputable def F_laws_eqStringS (n : Nat) (a0 : (List (List Int))) (a1 : (List (List Int))) : Option Bool := run Tryd.prog A_laws_eqStringS In_laws_eqStringS (conOf cs_laws_eqStringS) Tryd.f40 (Tryd.f40.body.getD .skip) (packT [.bool]) n (argsV [(.list .str), (.list .str)] (a0, a1, ()))
noncomputable abbrev L_laws_eqStringS_0_4 (n : Nat) (x1 : (List (List Int))) (x2 : (List (List Int))) (x3 : Int) : Option Bool := lam Tryd.prog A_laws_eqStringS In_laws_eqStringS (conOf cs_laws_eqStringS) Tryd.f40 (Tryd.f40.body.getD .skip) (packT [.bool]) n [0, 4] [.d (.list .str) x1, .d (.list .str) x2, .d I64 x3]
theorem F_laws_eqStringS_eq (n : Nat) (a0 : (List (List Int))) (a1 : (List (List Int))) : F_laws_eqStringS n a0 a1 =
    bif !decide ((a0.length : Int) = (a1.length : Int)) then
      some false
    else
      L_laws_eqStringS_0_4 n a0 a1 0 := by kernel_rfl
theorem L_laws_eqStringS_0_4_eq (n : Nat) (x1 : (List (List Int))) (x2 : (List (List Int))) (x3 : Int) : L_laws_eqStringS_0_4 (n + 1) x1 x2 x3 =
    bif decide (x3 < (x1.length : Int)) then
      bif inB x3 x1.length then
        bif inB x3 x2.length then
          bif !decide (rd x1 x3 (Ty.dflt .str) = rd x2 x3 (Ty.dflt .str)) then
            some false
          else
            L_laws_eqStringS_0_4 n x1 x2 (IntKind.wrap .i64 (x3 + 1))
        else none
      else none
    else
      some true := by kernel_rfl
theorem mk_laws_eqStringS (hcs : ∀ x ∈ cs_laws_eqStringS, CtrOk Tryd.prog x) (h : ∀ (a0 : (List (List Int))) (a1 : (List (List Int))) y, eqC (.list .str) a0 a1 = some y → ∃ n, F_laws_eqStringS n a0 a1 = some y) : CtrOk Tryd.prog c_laws_eqStringS := by
  refine ctr_of_run (c := c_laws_eqStringS) (by kernel_rfl) (by kernel_rfl : Tryd.prog.funcs[40]? = some Tryd.f40) (code := Tryd.f40.body.getD .skip) (by kernel_rfl) (by kernel_rfl) (by kernel_rfl) (A := A_laws_eqStringS) (I := In_laws_eqStringS) hcs ?_
  rintro ⟨a0, a1, u⟩ y hy
  exact h a0 a1 y hy

theorem hcs_laws_eqStringS : ∀ x ∈ cs_laws_eqStringS, CtrOk Tryd.prog x := conOf_nil
theorem ok_laws_eqStringS : CtrOk Tryd.prog c_laws_eqStringS := mk_laws_eqStringS hcs_laws_eqStringS fun a0 a1 y hy => by
  obtain ⟨n, hn⟩ := eqS_ok (t := .str) (body := fun x y K => bif !decide (x = y) then some false else K ()) (fun x K h => by simp) (fun n xs ys i => L_laws_eqStringS_0_4_eq n xs ys i) hy
  exact ⟨n, (F_laws_eqStringS_eq n a0 a1).trans hn⟩
/-! ## laws.eqValue (10) -/
noncomputable def c_laws_eqValue : Ctr := ⟨10, [TyValue, TyValue], [.bool], fun x => eqC TyValue x.1 x.2.1⟩
def A_laws_eqValue : List (List Nat × Ann) := []
def In_laws_eqValue : List (List Nat × Nat) := []
noncomputable def cs_laws_eqValue : List Ctr := [c_laws_eqAtom, c_laws_eqAtomS, c_laws_eqStringS]
noncomputable def F_laws_eqValue (n : Nat) (a0 : DValue) (a1 : DValue) : Option Bool := run Tryd.prog A_laws_eqValue In_laws_eqValue (conOf cs_laws_eqValue) Tryd.f10 (Tryd.f10.body.getD .skip) (packT [.bool]) n (argsV [TyValue, TyValue] (a0, a1, ()))
theorem F_laws_eqValue_eq (n : Nat) (a0 : DValue) (a1 : DValue) : F_laws_eqValue n a0 a1 =
    bif !decide (a0.1 = a1.1) then
      some false
    else
      Option.bind (eqC TyAtom a0.2.1 a1.2.1) fun (y1 : Bool) =>
      bif !(y1) then
        some false
      else
        Option.bind (eqC (.list TyAtom) a0.2.2.1 a1.2.2.1) fun (y2 : Bool) =>
        bif !(y2) then
          some false
        else
          Option.bind (eqC (.list .str) a0.2.2.2 a1.2.2.2) fun (y3 : Bool) =>
          bif !(y3) then
            some false
          else
            some true := by kernel_rfl
theorem mk_laws_eqValue (hcs : ∀ x ∈ cs_laws_eqValue, CtrOk Tryd.prog x) (h : ∀ (a0 : DValue) (a1 : DValue) y, eqC TyValue a0 a1 = some y → ∃ n, F_laws_eqValue n a0 a1 = some y) : CtrOk Tryd.prog c_laws_eqValue := by
  refine ctr_of_run (c := c_laws_eqValue) (by kernel_rfl) (by kernel_rfl : Tryd.prog.funcs[10]? = some Tryd.f10) (code := Tryd.f10.body.getD .skip) (by kernel_rfl) (by kernel_rfl) (by kernel_rfl) (A := A_laws_eqValue) (I := In_laws_eqValue) hcs ?_
  rintro ⟨a0, a1, u⟩ y hy
  exact h a0 a1 y hy

theorem hcs_laws_eqValue : ∀ x ∈ cs_laws_eqValue, CtrOk Tryd.prog x := (conOf_cons ok_laws_eqAtom (conOf_cons ok_laws_eqAtomS (conOf_cons ok_laws_eqStringS conOf_nil)))
theorem ok_laws_eqValue : CtrOk Tryd.prog c_laws_eqValue := mk_laws_eqValue hcs_laws_eqValue fun a0 a1 y hy => by
  obtain ⟨rfl, hw, rfl⟩ := eqC_inv hy
  have hw2 : wfD I64 a0.1 ∧ wfD TyAtom a0.2.1 ∧ wfD (.list TyAtom) a0.2.2.1 ∧ wfD (.list .str) a0.2.2.2 := hw
  refine ⟨0, ?_⟩
  rw [F_laws_eqValue_eq]
  simp [eqC_some hw2.2.1, eqC_some hw2.2.2.1, eqC_some hw2.2.2.2]
/-! ## laws.FnExactFitsKind (3) -/
noncomputable def P_laws_FnExactFitsKind (g0 : (List ((List Int) × Int))) (a0 : DValue) (a1 : (List Int)) : Option Bool :=
  bif decide ((1048576 : Int) < (a1.length : Int)) then
    some true
  else
    Option.bind (szC TyValue a0 1048576) fun (y1 : Int) =>
    bif decide (y1 < 0) then
      some true
    else
      Option.bind (toC TyValue a0) fun (y2 : DValue) =>
      Option.bind (P_spec_FitsKind y2 a1) fun (y3 : Bool) =>
      Option.bind (toC TyValue a0) fun (y4 : DValue) =>
      Option.bind (P_impl_FitsKind g0 y4 a1) fun (y5 : Bool) =>
      bif y5 != y3 then
        some false
      else
        Option.bind (toC TyValue a0) fun (y6 : DValue) =>
        Option.bind (eqC TyValue y4 y6) fun (y7 : Bool) =>
        bif !(y7) then
          some false
        else
          some true
def A_laws_FnExactFitsKind : List (List Nat × Ann) := []
def In_laws_FnExactFitsKind : List (List Nat × Nat) := []
noncomputable def cs_laws_FnExactFitsKind (g0 : (List ((List Int) × Int))) : List Ctr := [c_laws_szValue, c_laws_toValue, c_spec_FitsKind, (c_impl_FitsKind g0), c_laws_eqValue]
noncomputable def F_laws_FnExactFitsKind (g0 : (List ((List Int) × Int))) (n : Nat) (a0 : DValue) (a1 : (List Int)) : Option Bool := runE Tryd.prog (glOf [(0, explode (.map .str I64) g0)]) A_laws_FnExactFitsKind In_laws_FnExactFitsKind (conOf (cs_laws_FnExactFitsKind g0)) Tryd.f3 (Tryd.f3.body.getD .skip) (endD Tryd.prog Tryd.f3 (packT [.bool])) n (argsV [TyValue, .str] (a0, a1, ()))
theorem F_laws_FnExactFitsKind_eq (g0 : (List ((List Int) × Int))) (n : Nat) (a0 : DValue) (a1 : (List Int)) : F_laws_FnExactFitsKind g0 n a0 a1 =
    bif decide ((1048576 : Int) < (a1.length : Int)) then
      some true
    else
      Option.bind (szC TyValue a0 1048576) fun (y1 : Int) =>
      bif decide (y1 < 0) then
        some true
      else
        Option.bind (toC TyValue a0) fun (y2 : DValue) =>
        Option.bind (P_spec_FitsKind y2 a1) fun (y3 : Bool) =>
        Option.bind (toC TyValue a0) fun (y4 : DValue) =>
        Option.bind (P_impl_FitsKind g0 y4 a1) fun (y5 : Bool) =>
        bif y5 != y3 then
          some false
        else
          Option.bind (toC TyValue a0) fun (y6 : DValue) =>
          Option.bind (eqC TyValue y4 y6) fun (y7 : Bool) =>
          bif !(y7) then
            some false
          else
            some true := by kernel_rfl
theorem S_laws_FnExactFitsKind {g0 : (List ((List Int) × Int))} (a0 : DValue) (a1 : (List Int)) {r : Bool} (h : P_laws_FnExactFitsKind g0 a0 a1 = some r) : Ev (fun n => F_laws_FnExactFitsKind g0 n a0 a1) r := by
  rw [P_laws_FnExactFitsKind] at h
  refine Ev.of_eq ?_ (fun n => F_laws_FnExactFitsKind_eq g0 n a0 a1)
  exact (Ev.ofBif h (fun h => (Ev.ofSome h)) (fun h => (Ev.ofBind h fun y1 h => (Ev.ofBif h (fun h => (Ev.ofSome h)) (fun h => (Ev.ofBind h fun y2 h => (Ev.ofBind h fun y3 h => (Ev.ofBind h fun y4 h => (Ev.ofBind h fun y5 h => (Ev.ofBif h (fun h => (Ev.ofSome h)) (fun h => (Ev.ofBind h fun y6 h => (Ev.ofBind h fun y7 h => (Ev.ofBif h (fun h => (Ev.ofSome h)) (fun h => (Ev.ofSome h))))))))))))))))

/-! ## spec.l11ThingType (82) -/
noncomputable def P_spec_l11ThingType_0_2 (x1 : (List Int)) : List DThingType → Option (DThingType × Bool)
  | [] =>
      some ((([] : List Int), [], []), false)
  | e :: rest =>
      bif decide ((e).1 = x1) then
        some ((e), true)
      else
        P_spec_l11ThingType_0_2 x1 rest
noncomputable def P_spec_l11ThingType (a0 : DPolSchema) (a1 : (List Int)) : Option (DThingType × Bool) :=
  lenOk a0.1 (P_spec_l11ThingType_0_2 a1 a0.1)
noncomputable def c_spec_l11ThingType : Ctr := ⟨82, [TyPolSchema, .str], [TyThingType, .bool], fun x => P_spec_l11ThingType x.1 x.2.1⟩
def A_spec_l11ThingType : List (List Nat × Ann) := [([0, 2], [.keep 0 1, .keep 0 4, .keep 0 9, .keep 0 10, .keep 0 11, .boxd 0 4 TyThingType])]
def In_spec_l11ThingType : List (List Nat × Nat) := []
noncomputable def cs_spec_l11ThingType : List Ctr := []
noncomputable def F_spec_l11ThingType (n : Nat) (a0 : DPolSchema) (a1 : (List Int)) : Option (DThingType × Bool) := run Tryd.prog A_spec_l11ThingType In_spec_l11ThingType (conOf cs_spec_l11ThingType) Tryd.f82 (Tryd.f82.body.getD .skip) (packT [TyThingType, .bool]) n (argsV [TyPolSchema, .str] (a0, a1, ()))
noncomputable abbrev L_spec_l11ThingType_0_2 (n : Nat) (x1 : (List Int)) (x2 : (List DThingType)) (x3 : Int) (x4 : Int) (x5 : DThingType) : Option (DThingType × Bool) := lam Tryd.prog A_spec_l11ThingType In_spec_l11ThingType (conOf cs_spec_l11ThingType) Tryd.f82 (Tryd.f82.body.getD .skip) (packT [TyThingType, .bool]) n [0, 2] [.d .str x1, .ptr 0 4 0, .d (.list TyThingType) x2, .d I64 x3, .d I64 x4, .agg (explode TyThingType x5)]
theorem F_spec_l11ThingType_eq (n : Nat) (a0 : DPolSchema) (a1 : (List Int)) : F_spec_l11ThingType n a0 a1 =
    L_spec_l11ThingType_0_2 n a1 a0.1 (a0.1.length : Int) 0 (([] : List Int), [], []) := by kernel_rfl
theorem L_spec_l11ThingType_0_2_eq (n : Nat) (x1 : (List Int)) (x2 : (List DThingType)) (x3 : Int) (x4 : Int) (x5 : DThingType) : L_spec_l11ThingType_0_2 (n + 1) x1 x2 x3 x4 x5 =
    bif decide (x4 < x3) then
      bif inB x4 x2.length then
        bif decide ((rd x2 x4 (Ty.dflt TyThingType)).1 = x1) then
          some ((rd x2 x4 (Ty.dflt TyThingType)), true)
        else
          L_spec_l11ThingType_0_2 n x1 x2 x3 (IntKind.wrap .i64 (x4 + 1)) x5
      else none
    else
      some ((([] : List Int), [], []), false) := by kernel_rfl
theorem S_spec_l11ThingType_0_2 {x1 : (List Int)} {x2 : (List DThingType)} {x5 : DThingType} (hl : x2.length ≤ maxLen) : ∀ (rest : List DThingType) (k : Nat) (r : (DThingType × Bool)), rest = x2.drop k → P_spec_l11ThingType_0_2 x1 rest = some r → Ev (fun n => L_spec_l11ThingType_0_2 n x1 x2 (x2.length : Int) (k : Int) x5) r := by
  intro rest
  induction rest with
  | nil =>
    intro k r hr h
    have hk := drop_nil hr
    rw [P_spec_l11ThingType_0_2] at h
    refine Ev.step ?_ (fun n => L_spec_l11ThingType_0_2_eq n x1 x2 (x2.length : Int) (k : Int) x5)
    rw [show decide ((k : Int) < (x2.length : Int)) = false from decide_eq_false (by omega)]
    exact Ev.neg rfl (Ev.ofSome h)
  | cons e rest ih =>
    intro k r hr h
    obtain ⟨hk, hx, hr2⟩ := drop_cons (d := (Ty.dflt TyThingType)) hr
    have hw := wrap_succ hl hk
    have ih2 : ∀ (r : (DThingType × Bool)), P_spec_l11ThingType_0_2 x1 rest = some r → Ev (fun n => L_spec_l11ThingType_0_2 n x1 x2 (x2.length : Int) (IntKind.wrap .i64 ((k : Int) + 1)) x5) r := by
      intro r h; rw [hw]; exact ih (k + 1) r hr2 h
    rw [P_spec_l11ThingType_0_2] at h
    refine Ev.step ?_ (fun n => L_spec_l11ThingType_0_2_eq n x1 x2 (x2.length : Int) (k : Int) x5)
    rw [show decide ((k : Int) < (x2.length : Int)) = true from decide_eq_true (by omega), inB_nat2 hk, hx]
    exact Ev.pos rfl (Ev.pos rfl (Ev.ofBif h (fun h => (Ev.ofSome h)) (fun h => (ih2  _ h))))
theorem S_spec_l11ThingType (a0 : DPolSchema) (a1 : (List Int)) {r : (DThingType × Bool)} (h : P_spec_l11ThingType a0 a1 = some r) : Ev (fun n => F_spec_l11ThingType n a0 a1) r := by
  rw [P_spec_l11ThingType] at h
  refine Ev.of_eq ?_ (fun n => F_spec_l11ThingType_eq n a0 a1)
  exact (Ev.ofLen h fun hl h => S_spec_l11ThingType_0_2 hl _ (0 : Nat) _ rfl h)
theorem hcs_spec_l11ThingType : ∀ x ∈ cs_spec_l11ThingType, CtrOk Tryd.prog x := conOf_nil
theorem ok_spec_l11ThingType : CtrOk Tryd.prog (c_spec_l11ThingType) := by
  refine ctr_of_run (c := c_spec_l11ThingType) (by kernel_rfl) (by kernel_rfl : Tryd.prog.funcs[82]? = some Tryd.f82) (code := Tryd.f82.body.getD .skip) (by kernel_rfl) (by kernel_rfl) (by kernel_rfl) (A := A_spec_l11ThingType) (I := In_spec_l11ThingType) (hcs_spec_l11ThingType) ?_
  rintro ⟨a0, a1, u⟩ y hy
  exact (S_spec_l11ThingType a0 a1 hy).get

/-! ## spec.l3Rising (83) -/
noncomputable def P_spec_l3Rising_0_2 (x1 : (List (List Int))) : List (List Int) → Nat → Option Bool
  | [], k =>
      some true
  | e :: rest, k =>
      bif inB (IntKind.wrap .i64 ((k : Int) - 1)) x1.length then
        Option.bind (P_spec_l1CmpText (rd x1 (IntKind.wrap .i64 ((k : Int) - 1)) (Ty.dflt .str)) (e)) fun (y1 : Int) =>
        bif decide ((0 : Int) ≤ y1) then
          some false
        else
          P_spec_l3Rising_0_2 x1 rest (k + 1)
      else none
noncomputable def P_spec_l3Rising (a0 : (List (List Int))) : Option Bool :=
  lenOk a0 (P_spec_l3Rising_0_2 a0 (a0.drop 1) 1)
noncomputable def c_spec_l3Rising : Ctr := ⟨83, [(.list .str)], [.bool], fun x => P_spec_l3Rising x.1⟩
def A_spec_l3Rising : List (List Nat × Ann) := [([0, 2], [.keep 0 0, .keep 0 3])]
def In_spec_l3Rising : List (List Nat × Nat) := []
noncomputable def cs_spec_l3Rising : List Ctr := [c_spec_l1CmpText]
noncomputable def F_spec_l3Rising (n : Nat) (a0 : (List (List Int))) : Option Bool := run Tryd.prog A_spec_l3Rising In_spec_l3Rising (conOf cs_spec_l3Rising) Tryd.f83 (Tryd.f83.body.getD .skip) (packT [.bool]) n (argsV [(.list .str)] (a0, ()))
noncomputable abbrev L_spec_l3Rising_0_2 (n : Nat) (x1 : (List (List Int))) (x2 : Int) : Option Bool := lam Tryd.prog A_spec_l3Rising In_spec_l3Rising (conOf cs_spec_l3Rising) Tryd.f83 (Tryd.f83.body.getD .skip) (packT [.bool]) n [0, 2] [.d (.list .str) x1, .d I64 x2]
theorem F_spec_l3Rising_eq (n : Nat) (a0 : (List (List Int))) : F_spec_l3Rising n a0 =
    L_spec_l3Rising_0_2 n a0 1 := by kernel_rfl
theorem L_spec_l3Rising_0_2_eq (n : Nat) (x1 : (List (List Int))) (x2 : Int) : L_spec_l3Rising_0_2 (n + 1) x1 x2 =
    bif decide (x2 < (x1.length : Int)) then
      bif inB (IntKind.wrap .i64 (x2 - 1)) x1.length then
        bif inB x2 x1.length then
          Option.bind (P_spec_l1CmpText (rd x1 (IntKind.wrap .i64 (x2 - 1)) (Ty.dflt .str)) (rd x1 x2 (Ty.dflt .str))) fun (y1 : Int) =>
          bif decide ((0 : Int) ≤ y1) then
            some false
          else
            L_spec_l3Rising_0_2 n x1 (IntKind.wrap .i64 (x2 + 1))
        else none
      else none
    else
      some true := by kernel_rfl
theorem S_spec_l3Rising_0_2 {x1 : (List (List Int))} (hl : x1.length ≤ maxLen) : ∀ (rest : List (List Int)) (k : Nat) (r : Bool), rest = x1.drop k → P_spec_l3Rising_0_2 x1 rest k = some r → Ev (fun n => L_spec_l3Rising_0_2 n x1 (k : Int)) r := by
  intro rest
  induction rest with
  | nil =>
    intro k r hr h
    have hk := drop_nil hr
    rw [P_spec_l3Rising_0_2] at h
    refine Ev.step ?_ (fun n => L_spec_l3Rising_0_2_eq n x1 (k : Int))
    rw [show decide ((k : Int) < (x1.length : Int)) = false from decide_eq_false (by omega)]
    exact Ev.neg rfl (Ev.ofSome h)
  | cons e rest ih =>
    intro k r hr h
    obtain ⟨hk, hx, hr2⟩ := drop_cons (d := (Ty.dflt .str)) hr
    have hw := wrap_succ hl hk
    have ih2 : ∀ (r : Bool), P_spec_l3Rising_0_2 x1 rest (k + 1) = some r → Ev (fun n => L_spec_l3Rising_0_2 n x1 (IntKind.wrap .i64 ((k : Int) + 1))) r := by
      intro r h; rw [hw]; exact ih (k + 1) r hr2 h
    rw [P_spec_l3Rising_0_2] at h
    refine Ev.step ?_ (fun n => L_spec_l3Rising_0_2_eq n x1 (k : Int))
    rw [show decide ((k : Int) < (x1.length : Int)) = true from decide_eq_true (by omega), inB_nat2 hk, hx]
    exact Ev.pos rfl (Ev.ofBif h (fun h => (Ev.pos rfl (Ev.ofBind h fun y1 h => (Ev.ofBif h (fun h => (Ev.ofSome h)) (fun h => (ih2  _ h)))))) (fun h => (Ev.ofNone h)))
theorem S_spec_l3Rising (a0 : (List (List Int))) {r : Bool} (h : P_spec_l3Rising a0 = some r) : Ev (fun n => F_spec_l3Rising n a0) r := by
  rw [P_spec_l3Rising] at h
  refine Ev.of_eq ?_ (fun n => F_spec_l3Rising_eq n a0)
  exact (Ev.ofLen h fun hl h => S_spec_l3Rising_0_2 hl _ (1 : Nat) _ rfl h)
theorem hcs_spec_l3Rising : ∀ x ∈ cs_spec_l3Rising, CtrOk Tryd.prog x := (conOf_cons ok_spec_l1CmpText conOf_nil)
theorem ok_spec_l3Rising : CtrOk Tryd.prog (c_spec_l3Rising) := by
  refine ctr_of_run (c := c_spec_l3Rising) (by kernel_rfl) (by kernel_rfl : Tryd.prog.funcs[83]? = some Tryd.f83) (code := Tryd.f83.body.getD .skip) (by kernel_rfl) (by kernel_rfl) (by kernel_rfl) (A := A_spec_l3Rising) (I := In_spec_l3Rising) (hcs_spec_l3Rising) ?_
  rintro ⟨a0, u⟩ y hy
  exact (S_spec_l3Rising a0 hy).get

/-! ## spec.l11GoodTypes (44) -/
noncomputable def P_spec_l11GoodTypes_0_2 (x1 : (List (List Int))) (x5 : DPolSchema) : List (List Int) → Option Bool
  | [] =>
      Option.bind (P_spec_l3Rising x1) fun (y2 : Bool) =>
      some y2
  | e :: rest =>
      Option.bind (P_spec_l11ThingType x5 (e)) fun (y1 : (DThingType × Bool)) =>
      bif !(y1.2) then
        some false
      else
        P_spec_l11GoodTypes_0_2 x1 x5 rest
noncomputable def P_spec_l11GoodTypes (a0 : DPolSchema) (a1 : (List (List Int))) : Option Bool :=
  lenOk a1 (P_spec_l11GoodTypes_0_2 a1 a0 a1)
noncomputable def c_spec_l11GoodTypes : Ctr := ⟨44, [TyPolSchema, (.list .str)], [.bool], fun x => P_spec_l11GoodTypes x.1 x.2.1⟩
def A_spec_l11GoodTypes : List (List Nat × Ann) := [([0, 2], [.keep 0 1, .keep 0 2, .keep 0 9, .keep 0 10, .keep 0 11, .boxd 0 2 TyPolSchema])]
def In_spec_l11GoodTypes : List (List Nat × Nat) := []
noncomputable def cs_spec_l11GoodTypes : List Ctr := [c_spec_l11ThingType, c_spec_l3Rising]
noncomputable def F_spec_l11GoodTypes (n : Nat) (a0 : DPolSchema) (a1 : (List (List Int))) : Option Bool := run Tryd.prog A_spec_l11GoodTypes In_spec_l11GoodTypes (conOf cs_spec_l11GoodTypes) Tryd.f44 (Tryd.f44.body.getD .skip) (packT [.bool]) n (argsV [TyPolSchema, (.list .str)] (a0, a1, ()))
noncomputable abbrev L_spec_l11GoodTypes_0_2 (n : Nat) (x1 : (List (List Int))) (x2 : (List (List Int))) (x3 : Int) (x4 : Int) (x5 : DPolSchema) : Option Bool := lam Tryd.prog A_spec_l11GoodTypes In_spec_l11GoodTypes (conOf cs_spec_l11GoodTypes) Tryd.f44 (Tryd.f44.body.getD .skip) (packT [.bool]) n [0, 2] [.d (.list .str) x1, .ptr 0 2 0, .d (.list .str) x2, .d I64 x3, .d I64 x4, .agg (explode TyPolSchema x5)]
theorem F_spec_l11GoodTypes_eq (n : Nat) (a0 : DPolSchema) (a1 : (List (List Int))) : F_spec_l11GoodTypes n a0 a1 =
    L_spec_l11GoodTypes_0_2 n a1 a1 (a1.length : Int) 0 a0 := by kernel_rfl
theorem L_spec_l11GoodTypes_0_2_eq (n : Nat) (x1 : (List (List Int))) (x2 : (List (List Int))) (x3 : Int) (x4 : Int) (x5 : DPolSchema) : L_spec_l11GoodTypes_0_2 (n + 1) x1 x2 x3 x4 x5 =
    bif decide (x4 < x3) then
      bif inB x4 x2.length then
        Option.bind (P_spec_l11ThingType x5 (rd x2 x4 (Ty.dflt .str))) fun (y1 : (DThingType × Bool)) =>
        bif !(y1.2) then
          some false
        else
          L_spec_l11GoodTypes_0_2 n x1 x2 x3 (IntKind.wrap .i64 (x4 + 1)) x5
      else none
    else
      Option.bind (P_spec_l3Rising x1) fun (y2 : Bool) =>
      some y2 := by kernel_rfl
theorem S_spec_l11GoodTypes_0_2 {x1 : (List (List Int))} {x5 : DPolSchema} (hl : x1.length ≤ maxLen) : ∀ (rest : List (List Int)) (k : Nat) (r : Bool), rest = x1.drop k → P_spec_l11GoodTypes_0_2 x1 x5 rest = some r → Ev (fun n => L_spec_l11GoodTypes_0_2 n x1 x1 (x1.length : Int) (k : Int) x5) r := by
  intro rest
  induction rest with
  | nil =>
    intro k r hr h
    have hk := drop_nil hr
    rw [P_spec_l11GoodTypes_0_2] at h
    refine Ev.step ?_ (fun n => L_spec_l11GoodTypes_0_2_eq n x1 x1 (x1.length : Int) (k : Int) x5)
    rw [show decide ((k : Int) < (x1.length : Int)) = false from decide_eq_false (by omega)]
    exact Ev.neg rfl (Ev.ofBind h fun y2 h => (Ev.ofSome h))
  | cons e rest ih =>
    intro k r hr h
    obtain ⟨hk, hx, hr2⟩ := drop_cons (d := (Ty.dflt .str)) hr
    have hw := wrap_succ hl hk
    have ih2 : ∀ (r : Bool), P_spec_l11GoodTypes_0_2 x1 x5 rest = some r → Ev (fun n => L_spec_l11GoodTypes_0_2 n x1 x1 (x1.length : Int) (IntKind.wrap .i64 ((k : Int) + 1)) x5) r := by
      intro r h; rw [hw]; exact ih (k + 1) r hr2 h
    rw [P_spec_l11GoodTypes_0_2] at h
    refine Ev.step ?_ (fun n => L_spec_l11GoodTypes_0_2_eq n x1 x1 (x1.length : Int) (k : Int) x5)
    rw [show decide ((k : Int) < (x1.length : Int)) = true from decide_eq_true (by omega), inB_nat2 hk, hx]
    exact Ev.pos rfl (Ev.pos rfl (Ev.ofBind h fun y1 h => (Ev.ofBif h (fun h => (Ev.ofSome h)) (fun h => (ih2  _ h)))))
theorem S_spec_l11GoodTypes (a0 : DPolSchema) (a1 : (List (List Int))) {r : Bool} (h : P_spec_l11GoodTypes a0 a1 = some r) : Ev (fun n => F_spec_l11GoodTypes n a0 a1) r := by
  rw [P_spec_l11GoodTypes] at h
  refine Ev.of_eq ?_ (fun n => F_spec_l11GoodTypes_eq n a0 a1)
  exact (Ev.ofLen h fun hl h => S_spec_l11GoodTypes_0_2 hl _ (0 : Nat) _ rfl h)
theorem hcs_spec_l11GoodTypes : ∀ x ∈ cs_spec_l11GoodTypes, CtrOk Tryd.prog x := (conOf_cons ok_spec_l11ThingType (conOf_cons ok_spec_l3Rising conOf_nil))
theorem ok_spec_l11GoodTypes : CtrOk Tryd.prog (c_spec_l11GoodTypes) := by
  refine ctr_of_run (c := c_spec_l11GoodTypes) (by kernel_rfl) (by kernel_rfl : Tryd.prog.funcs[44]? = some Tryd.f44) (code := Tryd.f44.body.getD .skip) (by kernel_rfl) (by kernel_rfl) (by kernel_rfl) (A := A_spec_l11GoodTypes) (I := In_spec_l11GoodTypes) (hcs_spec_l11GoodTypes) ?_
  rintro ⟨a0, a1, u⟩ y hy
  exact (S_spec_l11GoodTypes a0 a1 hy).get

/-! ## spec.l11GoodKind (84) -/
noncomputable def P_spec_l11GoodKind_1_3 (x1 : (List Int)) (x2 : DPolSchema) : Option Bool :=
  Option.bind (P_spec_l11Head x1 ([114, 101, 102, 32] : List Int)) fun (y2 : Bool) =>
  bif y2 then
    bif true && decide ((4 : Int) ≤ (x1.length : Int)) then
      Option.bind (P_spec_l11ThingType x2 (cut x1 4 (x1.length : Int))) fun (y3 : (DThingType × Bool)) =>
      some y3.2
    else none
  else
    Option.bind (P_spec_l3Has ([([98, 111, 111, 108] : List Int), ([110, 117, 109] : List Int), ([116, 101, 120, 116] : List Int), ([100, 101, 99] : List Int), ([97, 100, 100, 114] : List Int), ([116, 105, 109, 101] : List Int)] : List (List Int)) x1) fun (y4 : Bool) =>
    some y4
noncomputable def P_spec_l11GoodKind (a0 : DPolSchema) (a1 : (List Int)) : Option Bool :=
  Option.bind (P_spec_l11Head a1 ([115, 101, 116, 32] : List Int)) fun (y1 : Bool) =>
  bif y1 then
    bif true && decide ((4 : Int) ≤ (a1.length : Int)) then
      P_spec_l11GoodKind_1_3 (cut a1 4 (a1.length : Int)) a0
    else none
  else
    P_spec_l11GoodKind_1_3 a1 a0
noncomputable def c_spec_l11GoodKind : Ctr := ⟨84, [TyPolSchema, .str], [.bool], fun x => P_spec_l11GoodKind x.1 x.2.1⟩
def A_spec_l11GoodKind : List (List Nat × Ann) := [([1, 3], [.keep 0 1, .keep 0 2, .boxd 0 2 TyPolSchema])]
def In_spec_l11GoodKind : List (List Nat × Nat) := []
noncomputable def cs_spec_l11GoodKind : List Ctr := [c_spec_l11Head, c_spec_l11ThingType, c_spec_l3Has]
noncomputable def F_spec_l11GoodKind (n : Nat) (a0 : DPolSchema) (a1 : (List Int)) : Option Bool := run Tryd.prog A_spec_l11GoodKind In_spec_l11GoodKind (conOf cs_spec_l11GoodKind) Tryd.f84 (Tryd.f84.body.getD .skip) (packT [.bool]) n (argsV [TyPolSchema, .str] (a0, a1, ()))
noncomputable abbrev L_spec_l11GoodKind_1_3 (n : Nat) (x1 : (List Int)) (x2 : DPolSchema) : Option Bool := lam Tryd.prog A_spec_l11GoodKind In_spec_l11GoodKind (conOf cs_spec_l11GoodKind) Tryd.f84 (Tryd.f84.body.getD .skip) (packT [.bool]) n [1, 3] [.d .str x1, .ptr 0 2 0, .agg (explode TyPolSchema x2)]
theorem F_spec_l11GoodKind_eq (n : Nat) (a0 : DPolSchema) (a1 : (List Int)) : F_spec_l11GoodKind n a0 a1 =
    Option.bind (P_spec_l11Head a1 ([115, 101, 116, 32] : List Int)) fun (y1 : Bool) =>
    bif y1 then
      bif true && decide ((4 : Int) ≤ (a1.length : Int)) then
        L_spec_l11GoodKind_1_3 n (cut a1 4 (a1.length : Int)) a0
      else none
    else
      L_spec_l11GoodKind_1_3 n a1 a0 := by kernel_rfl
theorem L_spec_l11GoodKind_1_3_eq (n : Nat) (x1 : (List Int)) (x2 : DPolSchema) : L_spec_l11GoodKind_1_3 (n + 1) x1 x2 =
    Option.bind (P_spec_l11Head x1 ([114, 101, 102, 32] : List Int)) fun (y2 : Bool) =>
    bif y2 then
      bif true && decide ((4 : Int) ≤ (x1.length : Int)) then
        Option.bind (P_spec_l11ThingType x2 (cut x1 4 (x1.length : Int))) fun (y3 : (DThingType × Bool)) =>
        some y3.2
      else none
    else
      Option.bind (P_spec_l3Has ([([98, 111, 111, 108] : List Int), ([110, 117, 109] : List Int), ([116, 101, 120, 116] : List Int), ([100, 101, 99] : List Int), ([97, 100, 100, 114] : List Int), ([116, 105, 109, 101] : List Int)] : List (List Int)) x1) fun (y4 : Bool) =>
      some y4 := by kernel_rfl
theorem S_spec_l11GoodKind_1_3 {x1 : (List Int)} {x2 : DPolSchema} {r : Bool} (h : P_spec_l11GoodKind_1_3 x1 x2 = some r) : Ev (fun n => L_spec_l11GoodKind_1_3 n x1 x2) r := by
  rw [P_spec_l11GoodKind_1_3] at h
  refine Ev.step ?_ (fun n => L_spec_l11GoodKind_1_3_eq n x1 x2)
  exact (Ev.ofBind h fun y2 h => (Ev.ofBif h (fun h => (Ev.ofBif h (fun h => (Ev.ofBind h fun y3 h => (Ev.ofSome h))) (fun h => (Ev.ofNone h)))) (fun h => (Ev.ofBind h fun y4 h => (Ev.ofSome h)))))
theorem S_spec_l11GoodKind (a0 : DPolSchema) (a1 : (List Int)) {r : Bool} (h : P_spec_l11GoodKind a0 a1 = some r) : Ev (fun n => F_spec_l11GoodKind n a0 a1) r := by
  rw [P_spec_l11GoodKind] at h
  refine Ev.of_eq ?_ (fun n => F_spec_l11GoodKind_eq n a0 a1)
  exact (Ev.ofBind h fun y1 h => (Ev.ofBif h (fun h => (Ev.ofBif h (fun h => (S_spec_l11GoodKind_1_3 h)) (fun h => (Ev.ofNone h)))) (fun h => (S_spec_l11GoodKind_1_3 h))))
theorem hcs_spec_l11GoodKind : ∀ x ∈ cs_spec_l11GoodKind, CtrOk Tryd.prog x := (conOf_cons ok_spec_l11Head (conOf_cons ok_spec_l11ThingType (conOf_cons ok_spec_l3Has conOf_nil)))
theorem ok_spec_l11GoodKind : CtrOk Tryd.prog (c_spec_l11GoodKind) := by
  refine ctr_of_run (c := c_spec_l11GoodKind) (by kernel_rfl) (by kernel_rfl : Tryd.prog.funcs[84]? = some Tryd.f84) (code := Tryd.f84.body.getD .skip) (by kernel_rfl) (by kernel_rfl) (by kernel_rfl) (A := A_spec_l11GoodKind) (I := In_spec_l11GoodKind) (hcs_spec_l11GoodKind) ?_
  rintro ⟨a0, a1, u⟩ y hy
  exact (S_spec_l11GoodKind a0 a1 hy).get

/-! ## spec.l11GoodAttrs (45) -/
noncomputable def P_spec_l11GoodAttrs_0_2 (x1 : (List DAttrKind)) (x5 : DPolSchema) : List DAttrKind → Nat → Option Bool
  | [], k =>
      some (decide ((x1.length : Int) ≤ 20))
  | e :: rest, k =>
      Option.bind (P_spec_GoodName ((e).1)) fun (y1 : Bool) =>
      bif !(y1) then
        some false
      else
        bif decide ((0 : Int) < (k : Int)) then
          bif inB (IntKind.wrap .i64 ((k : Int) - 1)) x1.length then
            Option.bind (P_spec_l1CmpText ((rd x1 (IntKind.wrap .i64 ((k : Int) - 1)) (Ty.dflt TyAttrKind)).1) ((e).1)) fun (y2 : Int) =>
            bif decide ((0 : Int) ≤ y2) then
              some false
            else
              Option.bind (P_spec_l11GoodKind x5 (((e).2).1)) fun (y3 : Bool) =>
              bif !(y3) then
                some false
              else
                P_spec_l11GoodAttrs_0_2 x1 x5 rest (k + 1)
          else none
        else
          Option.bind (P_spec_l11GoodKind x5 (((e).2).1)) fun (y4 : Bool) =>
          bif !(y4) then
            some false
          else
            P_spec_l11GoodAttrs_0_2 x1 x5 rest (k + 1)
noncomputable def P_spec_l11GoodAttrs (a0 : DPolSchema) (a1 : (List DAttrKind)) : Option Bool :=
  lenOk a1 (P_spec_l11GoodAttrs_0_2 a1 a0 a1 0)
noncomputable def c_spec_l11GoodAttrs : Ctr := ⟨45, [TyPolSchema, (.list TyAttrKind)], [.bool], fun x => P_spec_l11GoodAttrs x.1 x.2.1⟩
def A_spec_l11GoodAttrs : List (List Nat × Ann) := [([0, 2], [.keep 0 1, .keep 0 2, .keep 0 7, .keep 0 8, .keep 0 9, .boxd 0 2 TyPolSchema])]
def In_spec_l11GoodAttrs : List (List Nat × Nat) := []
noncomputable def cs_spec_l11GoodAttrs : List Ctr := [c_spec_GoodName, c_spec_l1CmpText, c_spec_l11GoodKind]
noncomputable def F_spec_l11GoodAttrs (n : Nat) (a0 : DPolSchema) (a1 : (List DAttrKind)) : Option Bool := run Tryd.prog A_spec_l11GoodAttrs In_spec_l11GoodAttrs (conOf cs_spec_l11GoodAttrs) Tryd.f45 (Tryd.f45.body.getD .skip) (packT [.bool]) n (argsV [TyPolSchema, (.list TyAttrKind)] (a0, a1, ()))
noncomputable abbrev L_spec_l11GoodAttrs_0_2 (n : Nat) (x1 : (List DAttrKind)) (x2 : (List DAttrKind)) (x3 : Int) (x4 : Int) (x5 : DPolSchema) : Option Bool := lam Tryd.prog A_spec_l11GoodAttrs In_spec_l11GoodAttrs (conOf cs_spec_l11GoodAttrs) Tryd.f45 (Tryd.f45.body.getD .skip) (packT [.bool]) n [0, 2] [.d (.list TyAttrKind) x1, .ptr 0 2 0, .d (.list TyAttrKind) x2, .d I64 x3, .d I64 x4, .agg (explode TyPolSchema x5)]
theorem F_spec_l11GoodAttrs_eq (n : Nat) (a0 : DPolSchema) (a1 : (List DAttrKind)) : F_spec_l11GoodAttrs n a0 a1 =
    L_spec_l11GoodAttrs_0_2 n a1 a1 (a1.length : Int) 0 a0 := by kernel_rfl
theorem L_spec_l11GoodAttrs_0_2_eq (n : Nat) (x1 : (List DAttrKind)) (x2 : (List DAttrKind)) (x3 : Int) (x4 : Int) (x5 : DPolSchema) : L_spec_l11GoodAttrs_0_2 (n + 1) x1 x2 x3 x4 x5 =
    bif decide (x4 < x3) then
      bif inB x4 x2.length then
        Option.bind (P_spec_GoodName ((rd x2 x4 (Ty.dflt TyAttrKind)).1)) fun (y1 : Bool) =>
        bif !(y1) then
          some false
        else
          bif decide ((0 : Int) < x4) then
            bif inB (IntKind.wrap .i64 (x4 - 1)) x1.length then
              Option.bind (P_spec_l1CmpText ((rd x1 (IntKind.wrap .i64 (x4 - 1)) (Ty.dflt TyAttrKind)).1) ((rd x2 x4 (Ty.dflt TyAttrKind)).1)) fun (y2 : Int) =>
              bif decide ((0 : Int) ≤ y2) then
                some false
              else
                Option.bind (P_spec_l11GoodKind x5 (((rd x2 x4 (Ty.dflt TyAttrKind)).2).1)) fun (y3 : Bool) =>
                bif !(y3) then
                  some false
                else
                  L_spec_l11GoodAttrs_0_2 n x1 x2 x3 (IntKind.wrap .i64 (x4 + 1)) x5
            else none
          else
            Option.bind (P_spec_l11GoodKind x5 (((rd x2 x4 (Ty.dflt TyAttrKind)).2).1)) fun (y4 : Bool) =>
            bif !(y4) then
              some false
            else
              L_spec_l11GoodAttrs_0_2 n x1 x2 x3 (IntKind.wrap .i64 (x4 + 1)) x5
      else none
    else
      some (decide ((x1.length : Int) ≤ 20)) := by kernel_rfl
theorem S_spec_l11GoodAttrs_0_2 {x1 : (List DAttrKind)} {x5 : DPolSchema} (hl : x1.length ≤ maxLen) : ∀ (rest : List DAttrKind) (k : Nat) (r : Bool), rest = x1.drop k → P_spec_l11GoodAttrs_0_2 x1 x5 rest k = some r → Ev (fun n => L_spec_l11GoodAttrs_0_2 n x1 x1 (x1.length : Int) (k : Int) x5) r := by
  intro rest
  induction rest with
  | nil =>
    intro k r hr h
    have hk := drop_nil hr
    rw [P_spec_l11GoodAttrs_0_2] at h
    refine Ev.step ?_ (fun n => L_spec_l11GoodAttrs_0_2_eq n x1 x1 (x1.length : Int) (k : Int) x5)
    rw [show decide ((k : Int) < (x1.length : Int)) = false from decide_eq_false (by omega)]
    exact Ev.neg rfl (Ev.ofSome h)
  | cons e rest ih =>
    intro k r hr h
    obtain ⟨hk, hx, hr2⟩ := drop_cons (d := (Ty.dflt TyAttrKind)) hr
    have hw := wrap_succ hl hk
    have ih2 : ∀ (r : Bool), P_spec_l11GoodAttrs_0_2 x1 x5 rest (k + 1) = some r → Ev (fun n => L_spec_l11GoodAttrs_0_2 n x1 x1 (x1.length : Int) (IntKind.wrap .i64 ((k : Int) + 1)) x5) r := by
      intro r h; rw [hw]; exact ih (k + 1) r hr2 h
    rw [P_spec_l11GoodAttrs_0_2] at h
    refine Ev.step ?_ (fun n => L_spec_l11GoodAttrs_0_2_eq n x1 x1 (x1.length : Int) (k : Int) x5)
    rw [show decide ((k : Int) < (x1.length : Int)) = true from decide_eq_true (by omega), inB_nat2 hk, hx]
    exact Ev.pos rfl (Ev.pos rfl (Ev.ofBind h fun y1 h => (Ev.ofBif h (fun h => (Ev.ofSome h)) (fun h => (Ev.ofBif h (fun h => (Ev.ofBif h (fun h => (Ev.ofBind h fun y2 h => (Ev.ofBif h (fun h => (Ev.ofSome h)) (fun h => (Ev.ofBind h fun y3 h => (Ev.ofBif h (fun h => (Ev.ofSome h)) (fun h => (ih2  _ h)))))))) (fun h => (Ev.ofNone h)))) (fun h => (Ev.ofBind h fun y4 h => (Ev.ofBif h (fun h => (Ev.ofSome h)) (fun h => (ih2  _ h))))))))))
theorem S_spec_l11GoodAttrs (a0 : DPolSchema) (a1 : (List DAttrKind)) {r : Bool} (h : P_spec_l11GoodAttrs a0 a1 = some r) : Ev (fun n => F_spec_l11GoodAttrs n a0 a1) r := by
  rw [P_spec_l11GoodAttrs] at h
  refine Ev.of_eq ?_ (fun n => F_spec_l11GoodAttrs_eq n a0 a1)
  exact (Ev.ofLen h fun hl h => S_spec_l11GoodAttrs_0_2 hl _ (0 : Nat) _ rfl h)
theorem hcs_spec_l11GoodAttrs : ∀ x ∈ cs_spec_l11GoodAttrs, CtrOk Tryd.prog x := (conOf_cons ok_spec_GoodName (conOf_cons ok_spec_l1CmpText (conOf_cons ok_spec_l11GoodKind conOf_nil)))
theorem ok_spec_l11GoodAttrs : CtrOk Tryd.prog (c_spec_l11GoodAttrs) := by
  refine ctr_of_run (c := c_spec_l11GoodAttrs) (by kernel_rfl) (by kernel_rfl : Tryd.prog.funcs[45]? = some Tryd.f45) (code := Tryd.f45.body.getD .skip) (by kernel_rfl) (by kernel_rfl) (by kernel_rfl) (A := A_spec_l11GoodAttrs) (I := In_spec_l11GoodAttrs) (hcs_spec_l11GoodAttrs) ?_
  rintro ⟨a0, a1, u⟩ y hy
  exact (S_spec_l11GoodAttrs a0 a1 hy).get

/-! ## spec.l7Id (46) -/
noncomputable def P_spec_l7Id_0_2 (x1 : (List Int)) : List Int → Option Bool
  | [] =>
      bif decide ((1 : Int) ≤ (x1.length : Int)) then
        some (decide ((x1.length : Int) ≤ 40))
      else
        some false
  | e :: rest =>
      bif !(T_spec_l1Letter (e)) then
        bif !(T_spec_l1Digit (e)) then
          bif !decide (e = 95) then
            bif !decide (e = 45) then
              bif !decide (e = 46) then
                some false
              else
                P_spec_l7Id_0_2 x1 rest
            else
              P_spec_l7Id_0_2 x1 rest
          else
            P_spec_l7Id_0_2 x1 rest
        else
          P_spec_l7Id_0_2 x1 rest
      else
        P_spec_l7Id_0_2 x1 rest
noncomputable def P_spec_l7Id (a0 : (List Int)) : Option Bool :=
  lenOk a0 (P_spec_l7Id_0_2 a0 a0)
noncomputable def c_spec_l7Id : Ctr := ⟨46, [.str], [.bool], fun x => P_spec_l7Id x.1⟩
def A_spec_l7Id : List (List Nat × Ann) := [([0, 2], [.keep 0 0, .keep 0 3])]
def In_spec_l7Id : List (List Nat × Nat) := []
noncomputable def cs_spec_l7Id : List Ctr := [c_spec_l1Letter, c_spec_l1Digit]
noncomputable def F_spec_l7Id (n : Nat) (a0 : (List Int)) : Option Bool := run Tryd.prog A_spec_l7Id In_spec_l7Id (conOf cs_spec_l7Id) Tryd.f46 (Tryd.f46.body.getD .skip) (packT [.bool]) n (argsV [.str] (a0, ()))
noncomputable abbrev L_spec_l7Id_0_2 (n : Nat) (x1 : (List Int)) (x2 : Int) : Option Bool := lam Tryd.prog A_spec_l7Id In_spec_l7Id (conOf cs_spec_l7Id) Tryd.f46 (Tryd.f46.body.getD .skip) (packT [.bool]) n [0, 2] [.d .str x1, .d I64 x2]
theorem F_spec_l7Id_eq (n : Nat) (a0 : (List Int)) : F_spec_l7Id n a0 =
    L_spec_l7Id_0_2 n a0 0 := by kernel_rfl
theorem L_spec_l7Id_0_2_eq (n : Nat) (x1 : (List Int)) (x2 : Int) : L_spec_l7Id_0_2 (n + 1) x1 x2 =
    bif decide (x2 < (x1.length : Int)) then
      bif inB x2 x1.length then
        bif !(T_spec_l1Letter (rd x1 x2 0)) then
          bif inB x2 x1.length then
            bif !(T_spec_l1Digit (rd x1 x2 0)) then
              bif inB x2 x1.length then
                bif !decide (rd x1 x2 0 = 95) then
                  bif inB x2 x1.length then
                    bif !decide (rd x1 x2 0 = 45) then
                      bif inB x2 x1.length then
                        bif !decide (rd x1 x2 0 = 46) then
                          some false
                        else
                          L_spec_l7Id_0_2 n x1 (IntKind.wrap .i64 (x2 + 1))
                      else none
                    else
                      L_spec_l7Id_0_2 n x1 (IntKind.wrap .i64 (x2 + 1))
                  else none
                else
                  L_spec_l7Id_0_2 n x1 (IntKind.wrap .i64 (x2 + 1))
              else none
            else
              L_spec_l7Id_0_2 n x1 (IntKind.wrap .i64 (x2 + 1))
          else none
        else
          L_spec_l7Id_0_2 n x1 (IntKind.wrap .i64 (x2 + 1))
      else none
    else
      bif decide ((1 : Int) ≤ (x1.length : Int)) then
        some (decide ((x1.length : Int) ≤ 40))
      else
        some false := by kernel_rfl
theorem S_spec_l7Id_0_2 {x1 : (List Int)} (hl : x1.length ≤ maxLen) : ∀ (rest : List Int) (k : Nat) (r : Bool), rest = x1.drop k → P_spec_l7Id_0_2 x1 rest = some r → Ev (fun n => L_spec_l7Id_0_2 n x1 (k : Int)) r := by
  intro rest
  induction rest with
  | nil =>
    intro k r hr h
    have hk := drop_nil hr
    rw [P_spec_l7Id_0_2] at h
    refine Ev.step ?_ (fun n => L_spec_l7Id_0_2_eq n x1 (k : Int))
    rw [show decide ((k : Int) < (x1.length : Int)) = false from decide_eq_false (by omega)]
    exact Ev.neg rfl (Ev.ofBif h (fun h => (Ev.ofSome h)) (fun h => (Ev.ofSome h)))
  | cons e rest ih =>
    intro k r hr h
    obtain ⟨hk, hx, hr2⟩ := drop_cons (d := 0) hr
    have hw := wrap_succ hl hk
    have ih2 : ∀ (r : Bool), P_spec_l7Id_0_2 x1 rest = some r → Ev (fun n => L_spec_l7Id_0_2 n x1 (IntKind.wrap .i64 ((k : Int) + 1))) r := by
      intro r h; rw [hw]; exact ih (k + 1) r hr2 h
    rw [P_spec_l7Id_0_2] at h
    refine Ev.step ?_ (fun n => L_spec_l7Id_0_2_eq n x1 (k : Int))
    rw [show decide ((k : Int) < (x1.length : Int)) = true from decide_eq_true (by omega), inB_nat2 hk, hx]
    exact Ev.pos rfl (Ev.pos rfl (Ev.ofBif h (fun h => (Ev.pos rfl (Ev.ofBif h (fun h => (Ev.pos rfl (Ev.ofBif h (fun h => (Ev.pos rfl (Ev.ofBif h (fun h => (Ev.pos rfl (Ev.ofBif h (fun h => (Ev.ofSome h)) (fun h => (ih2  _ h))))) (fun h => (ih2  _ h))))) (fun h => (ih2  _ h))))) (fun h => (ih2  _ h))))) (fun h => (ih2  _ h))))
theorem S_spec_l7Id (a0 : (List Int)) {r : Bool} (h : P_spec_l7Id a0 = some r) : Ev (fun n => F_spec_l7Id n a0) r := by
  rw [P_spec_l7Id] at h
  refine Ev.of_eq ?_ (fun n => F_spec_l7Id_eq n a0)
  exact (Ev.ofLen h fun hl h => S_spec_l7Id_0_2 hl _ (0 : Nat) _ rfl h)
theorem hcs_spec_l7Id : ∀ x ∈ cs_spec_l7Id, CtrOk Tryd.prog x := (conOf_cons ok_spec_l1Letter (conOf_cons ok_spec_l1Digit conOf_nil))
theorem ok_spec_l7Id : CtrOk Tryd.prog (c_spec_l7Id) := by
  refine ctr_of_run (c := c_spec_l7Id) (by kernel_rfl) (by kernel_rfl : Tryd.prog.funcs[46]? = some Tryd.f46) (code := Tryd.f46.body.getD .skip) (by kernel_rfl) (by kernel_rfl) (by kernel_rfl) (A := A_spec_l7Id) (I := In_spec_l7Id) (hcs_spec_l7Id) ?_
  rintro ⟨a0, u⟩ y hy
  exact (S_spec_l7Id a0 hy).get

/-! ## spec.GoodPolSchema (12) -/
noncomputable def P_spec_GoodPolSchema_0_10 (x4 : DPolSchema) : List DActionType → Nat → Option Bool
  | [], k =>
      some true
  | e :: rest, k =>
      Option.bind (P_spec_l7Id ((e).1)) fun (y7 : Bool) =>
      bif !(y7) then
        some false
      else
        bif decide ((0 : Int) < (k : Int)) then
          bif inB (IntKind.wrap .i64 ((k : Int) - 1)) x4.2.length then
            Option.bind (P_spec_l1CmpText ((rd x4.2 (IntKind.wrap .i64 ((k : Int) - 1)) (Ty.dflt TyActionType)).1) ((e).1)) fun (y8 : Int) =>
            bif decide ((0 : Int) ≤ y8) then
              some false
            else
              bif decide (((((e).2).1).length : Int) < 1) then
                some false
              else
                bif decide ((((((e).2).2).1).length : Int) < 1) then
                  some false
                else
                  Option.bind (P_spec_l11GoodTypes x4 (((e).2).1)) fun (y9 : Bool) =>
                  bif !(y9) then
                    some false
                  else
                    Option.bind (P_spec_l11GoodTypes x4 ((((e).2).2).1)) fun (y10 : Bool) =>
                    bif !(y10) then
                      some false
                    else
                      Option.bind (P_spec_l11GoodAttrs x4 ((((e).2).2).2)) fun (y11 : Bool) =>
                      bif !(y11) then
                        some false
                      else
                        P_spec_GoodPolSchema_0_10 x4 rest (k + 1)
          else none
        else
          bif decide (((((e).2).1).length : Int) < 1) then
            some false
          else
            bif decide ((((((e).2).2).1).length : Int) < 1) then
              some false
            else
              Option.bind (P_spec_l11GoodTypes x4 (((e).2).1)) fun (y12 : Bool) =>
              bif !(y12) then
                some false
              else
                Option.bind (P_spec_l11GoodTypes x4 ((((e).2).2).1)) fun (y13 : Bool) =>
                bif !(y13) then
                  some false
                else
                  Option.bind (P_spec_l11GoodAttrs x4 ((((e).2).2).2)) fun (y14 : Bool) =>
                  bif !(y14) then
                    some false
                  else
                    P_spec_GoodPolSchema_0_10 x4 rest (k + 1)
noncomputable def P_spec_GoodPolSchema_0_4 (x4 : DPolSchema) : List DThingType → Nat → Option Bool
  | [], k =>
      lenOk x4.2 (P_spec_GoodPolSchema_0_10 x4 x4.2 0)
  | e :: rest, k =>
      Option.bind (P_spec_GoodName ((e).1)) fun (y1 : Bool) =>
      bif !(y1) then
        some false
      else
        bif decide ((e).1 = ([65, 99, 116, 105, 111, 110] : List Int)) then
          some false
        else
          bif decide ((0 : Int) < (k : Int)) then
            bif inB (IntKind.wrap .i64 ((k : Int) - 1)) x4.1.length then
              Option.bind (P_spec_l1CmpText ((rd x4.1 (IntKind.wrap .i64 ((k : Int) - 1)) (Ty.dflt TyThingType)).1) ((e).1)) fun (y2 : Int) =>
              bif decide ((0 : Int) ≤ y2) then
                some false
              else
                Option.bind (P_spec_l11GoodTypes x4 (((e).2).1)) fun (y3 : Bool) =>
                bif !(y3) then
                  some false
                else
                  Option.bind (P_spec_l11GoodAttrs x4 (((e).2).2)) fun (y4 : Bool) =>
                  bif !(y4) then
                    some false
                  else
                    P_spec_GoodPolSchema_0_4 x4 rest (k + 1)
            else none
          else
            Option.bind (P_spec_l11GoodTypes x4 (((e).2).1)) fun (y5 : Bool) =>
            bif !(y5) then
              some false
            else
              Option.bind (P_spec_l11GoodAttrs x4 (((e).2).2)) fun (y6 : Bool) =>
              bif !(y6) then
                some false
              else
                P_spec_GoodPolSchema_0_4 x4 rest (k + 1)
noncomputable def P_spec_GoodPolSchema (a0 : DPolSchema) : Option Bool :=
  bif decide ((20 : Int) < (a0.1.length : Int)) then
    some false
  else
    bif decide ((20 : Int) < (a0.2.length : Int)) then
      some false
    else
      lenOk a0.1 (P_spec_GoodPolSchema_0_4 a0 a0.1 0)
noncomputable def c_spec_GoodPolSchema : Ctr := ⟨12, [TyPolSchema], [.bool], fun x => P_spec_GoodPolSchema x.1⟩
def A_spec_GoodPolSchema : List (List Nat × Ann) := [([0, 4], [.keep 0 1, .keep 0 18, .keep 0 19, .keep 0 20, .boxd 0 1 TyPolSchema]), ([0, 10], [.keep 0 1, .keep 0 67, .keep 0 68, .keep 0 69, .boxd 0 1 TyPolSchema])]
def In_spec_GoodPolSchema : List (List Nat × Nat) := []
noncomputable def cs_spec_GoodPolSchema : List Ctr := [c_spec_GoodName, c_spec_l1CmpText, c_spec_l11GoodTypes, c_spec_l11GoodAttrs, c_spec_l7Id]
noncomputable def F_spec_GoodPolSchema (n : Nat) (a0 : DPolSchema) : Option Bool := run Tryd.prog A_spec_GoodPolSchema In_spec_GoodPolSchema (conOf cs_spec_GoodPolSchema) Tryd.f12 (Tryd.f12.body.getD .skip) (packT [.bool]) n (argsV [TyPolSchema] (a0, ()))
noncomputable abbrev L_spec_GoodPolSchema_0_4 (n : Nat) (x1 : (List DThingType)) (x2 : Int) (x3 : Int) (x4 : DPolSchema) : Option Bool := lam Tryd.prog A_spec_GoodPolSchema In_spec_GoodPolSchema (conOf cs_spec_GoodPolSchema) Tryd.f12 (Tryd.f12.body.getD .skip) (packT [.bool]) n [0, 4] [.ptr 0 1 0, .d (.list TyThingType) x1, .d I64 x2, .d I64 x3, .agg (explode TyPolSchema x4)]
noncomputable abbrev L_spec_GoodPolSchema_0_10 (n : Nat) (x1 : (List DActionType)) (x2 : Int) (x3 : Int) (x4 : DPolSchema) : Option Bool := lam Tryd.prog A_spec_GoodPolSchema In_spec_GoodPolSchema (conOf cs_spec_GoodPolSchema) Tryd.f12 (Tryd.f12.body.getD .skip) (packT [.bool]) n [0, 10] [.ptr 0 1 0, .d (.list TyActionType) x1, .d I64 x2, .d I64 x3, .agg (explode TyPolSchema x4)]
theorem F_spec_GoodPolSchema_eq (n : Nat) (a0 : DPolSchema) : F_spec_GoodPolSchema n a0 =
    bif decide ((20 : Int) < (a0.1.length : Int)) then
      some false
    else
      bif decide ((20 : Int) < (a0.2.length : Int)) then
        some false
      else
        L_spec_GoodPolSchema_0_4 n a0.1 (a0.1.length : Int) 0 a0 := by kernel_rfl
theorem L_spec_GoodPolSchema_0_4_eq (n : Nat) (x1 : (List DThingType)) (x2 : Int) (x3 : Int) (x4 : DPolSchema) : L_spec_GoodPolSchema_0_4 (n + 1) x1 x2 x3 x4 =
    bif decide (x3 < x2) then
      bif inB x3 x1.length then
        Option.bind (P_spec_GoodName ((rd x1 x3 (Ty.dflt TyThingType)).1)) fun (y1 : Bool) =>
        bif !(y1) then
          some false
        else
          bif decide ((rd x1 x3 (Ty.dflt TyThingType)).1 = ([65, 99, 116, 105, 111, 110] : List Int)) then
            some false
          else
            bif decide ((0 : Int) < x3) then
              bif inB (IntKind.wrap .i64 (x3 - 1)) x4.1.length then
                Option.bind (P_spec_l1CmpText ((rd x4.1 (IntKind.wrap .i64 (x3 - 1)) (Ty.dflt TyThingType)).1) ((rd x1 x3 (Ty.dflt TyThingType)).1)) fun (y2 : Int) =>
                bif decide ((0 : Int) ≤ y2) then
                  some false
                else
                  Option.bind (P_spec_l11GoodTypes x4 (((rd x1 x3 (Ty.dflt TyThingType)).2).1)) fun (y3 : Bool) =>
                  bif !(y3) then
                    some false
                  else
                    Option.bind (P_spec_l11GoodAttrs x4 (((rd x1 x3 (Ty.dflt TyThingType)).2).2)) fun (y4 : Bool) =>
                    bif !(y4) then
                      some false
                    else
                      L_spec_GoodPolSchema_0_4 n x1 x2 (IntKind.wrap .i64 (x3 + 1)) x4
              else none
            else
              Option.bind (P_spec_l11GoodTypes x4 (((rd x1 x3 (Ty.dflt TyThingType)).2).1)) fun (y5 : Bool) =>
              bif !(y5) then
                some false
              else
                Option.bind (P_spec_l11GoodAttrs x4 (((rd x1 x3 (Ty.dflt TyThingType)).2).2)) fun (y6 : Bool) =>
                bif !(y6) then
                  some false
                else
                  L_spec_GoodPolSchema_0_4 n x1 x2 (IntKind.wrap .i64 (x3 + 1)) x4
      else none
    else
      L_spec_GoodPolSchema_0_10 n x4.2 (x4.2.length : Int) 0 x4 := by kernel_rfl
theorem L_spec_GoodPolSchema_0_10_eq (n : Nat) (x1 : (List DActionType)) (x2 : Int) (x3 : Int) (x4 : DPolSchema) : L_spec_GoodPolSchema_0_10 (n + 1) x1 x2 x3 x4 =
    bif decide (x3 < x2) then
      bif inB x3 x1.length then
        Option.bind (P_spec_l7Id ((rd x1 x3 (Ty.dflt TyActionType)).1)) fun (y7 : Bool) =>
        bif !(y7) then
          some false
        else
          bif decide ((0 : Int) < x3) then
            bif inB (IntKind.wrap .i64 (x3 - 1)) x4.2.length then
              Option.bind (P_spec_l1CmpText ((rd x4.2 (IntKind.wrap .i64 (x3 - 1)) (Ty.dflt TyActionType)).1) ((rd x1 x3 (Ty.dflt TyActionType)).1)) fun (y8 : Int) =>
              bif decide ((0 : Int) ≤ y8) then
                some false
              else
                bif decide (((((rd x1 x3 (Ty.dflt TyActionType)).2).1).length : Int) < 1) then
                  some false
                else
                  bif decide ((((((rd x1 x3 (Ty.dflt TyActionType)).2).2).1).length : Int) < 1) then
                    some false
                  else
                    Option.bind (P_spec_l11GoodTypes x4 (((rd x1 x3 (Ty.dflt TyActionType)).2).1)) fun (y9 : Bool) =>
                    bif !(y9) then
                      some false
                    else
                      Option.bind (P_spec_l11GoodTypes x4 ((((rd x1 x3 (Ty.dflt TyActionType)).2).2).1)) fun (y10 : Bool) =>
                      bif !(y10) then
                        some false
                      else
                        Option.bind (P_spec_l11GoodAttrs x4 ((((rd x1 x3 (Ty.dflt TyActionType)).2).2).2)) fun (y11 : Bool) =>
                        bif !(y11) then
                          some false
                        else
                          L_spec_GoodPolSchema_0_10 n x1 x2 (IntKind.wrap .i64 (x3 + 1)) x4
            else none
          else
            bif decide (((((rd x1 x3 (Ty.dflt TyActionType)).2).1).length : Int) < 1) then
              some false
            else
              bif decide ((((((rd x1 x3 (Ty.dflt TyActionType)).2).2).1).length : Int) < 1) then
                some false
              else
                Option.bind (P_spec_l11GoodTypes x4 (((rd x1 x3 (Ty.dflt TyActionType)).2).1)) fun (y12 : Bool) =>
                bif !(y12) then
                  some false
                else
                  Option.bind (P_spec_l11GoodTypes x4 ((((rd x1 x3 (Ty.dflt TyActionType)).2).2).1)) fun (y13 : Bool) =>
                  bif !(y13) then
                    some false
                  else
                    Option.bind (P_spec_l11GoodAttrs x4 ((((rd x1 x3 (Ty.dflt TyActionType)).2).2).2)) fun (y14 : Bool) =>
                    bif !(y14) then
                      some false
                    else
                      L_spec_GoodPolSchema_0_10 n x1 x2 (IntKind.wrap .i64 (x3 + 1)) x4
      else none
    else
      some true := by kernel_rfl
theorem S_spec_GoodPolSchema_0_10 {x1 : (List DActionType)} {x4 : DPolSchema} (hl : x1.length ≤ maxLen) : ∀ (rest : List DActionType) (k : Nat) (r : Bool), rest = x1.drop k → P_spec_GoodPolSchema_0_10 x4 rest k = some r → Ev (fun n => L_spec_GoodPolSchema_0_10 n x1 (x1.length : Int) (k : Int) x4) r := by
  intro rest
  induction rest with
  | nil =>
    intro k r hr h
    have hk := drop_nil hr
    rw [P_spec_GoodPolSchema_0_10] at h
    refine Ev.step ?_ (fun n => L_spec_GoodPolSchema_0_10_eq n x1 (x1.length : Int) (k : Int) x4)
    rw [show decide ((k : Int) < (x1.length : Int)) = false from decide_eq_false (by omega)]
    exact Ev.neg rfl (Ev.ofSome h)
  | cons e rest ih =>
    intro k r hr h
    obtain ⟨hk, hx, hr2⟩ := drop_cons (d := (Ty.dflt TyActionType)) hr
    have hw := wrap_succ hl hk
    have ih2 : ∀ (r : Bool), P_spec_GoodPolSchema_0_10 x4 rest (k + 1) = some r → Ev (fun n => L_spec_GoodPolSchema_0_10 n x1 (x1.length : Int) (IntKind.wrap .i64 ((k : Int) + 1)) x4) r := by
      intro r h; rw [hw]; exact ih (k + 1) r hr2 h
    rw [P_spec_GoodPolSchema_0_10] at h
    refine Ev.step ?_ (fun n => L_spec_GoodPolSchema_0_10_eq n x1 (x1.length : Int) (k : Int) x4)
    rw [show decide ((k : Int) < (x1.length : Int)) = true from decide_eq_true (by omega), inB_nat2 hk, hx]
    exact Ev.pos rfl (Ev.pos rfl (Ev.ofBind h fun y7 h => (Ev.ofBif h (fun h => (Ev.ofSome h)) (fun h => (Ev.ofBif h (fun h => (Ev.ofBif h (fun h => (Ev.ofBind h fun y8 h => (Ev.ofBif h (fun h => (Ev.ofSome h)) (fun h => (Ev.ofBif h (fun h => (Ev.ofSome h)) (fun h => (Ev.ofBif h (fun h => (Ev.ofSome h)) (fun h => (Ev.ofBind h fun y9 h => (Ev.ofBif h (fun h => (Ev.ofSome h)) (fun h => (Ev.ofBind h fun y10 h => (Ev.ofBif h (fun h => (Ev.ofSome h)) (fun h => (Ev.ofBind h fun y11 h => (Ev.ofBif h (fun h => (Ev.ofSome h)) (fun h => (ih2  _ h)))))))))))))))))) (fun h => (Ev.ofNone h)))) (fun h => (Ev.ofBif h (fun h => (Ev.ofSome h)) (fun h => (Ev.ofBif h (fun h => (Ev.ofSome h)) (fun h => (Ev.ofBind h fun y12 h => (Ev.ofBif h (fun h => (Ev.ofSome h)) (fun h => (Ev.ofBind h fun y13 h => (Ev.ofBif h (fun h => (Ev.ofSome h)) (fun h => (Ev.ofBind h fun y14 h => (Ev.ofBif h (fun h => (Ev.ofSome h)) (fun h => (ih2  _ h))))))))))))))))))))
theorem S_spec_GoodPolSchema_0_4 {x1 : (List DThingType)} {x4 : DPolSchema} (hl : x1.length ≤ maxLen) : ∀ (rest : List DThingType) (k : Nat) (r : Bool), rest = x1.drop k → P_spec_GoodPolSchema_0_4 x4 rest k = some r → Ev (fun n => L_spec_GoodPolSchema_0_4 n x1 (x1.length : Int) (k : Int) x4) r := by
  intro rest
  induction rest with
  | nil =>
    intro k r hr h
    have hk := drop_nil hr
    rw [P_spec_GoodPolSchema_0_4] at h
    refine Ev.step ?_ (fun n => L_spec_GoodPolSchema_0_4_eq n x1 (x1.length : Int) (k : Int) x4)
    rw [show decide ((k : Int) < (x1.length : Int)) = false from decide_eq_false (by omega)]
    exact Ev.neg rfl (Ev.ofLen h fun hl h => S_spec_GoodPolSchema_0_10 hl _ (0 : Nat) _ rfl h)
  | cons e rest ih =>
    intro k r hr h
    obtain ⟨hk, hx, hr2⟩ := drop_cons (d := (Ty.dflt TyThingType)) hr
    have hw := wrap_succ hl hk
    have ih2 : ∀ (r : Bool), P_spec_GoodPolSchema_0_4 x4 rest (k + 1) = some r → Ev (fun n => L_spec_GoodPolSchema_0_4 n x1 (x1.length : Int) (IntKind.wrap .i64 ((k : Int) + 1)) x4) r := by
      intro r h; rw [hw]; exact ih (k + 1) r hr2 h
    rw [P_spec_GoodPolSchema_0_4] at h
    refine Ev.step ?_ (fun n => L_spec_GoodPolSchema_0_4_eq n x1 (x1.length : Int) (k : Int) x4)
    rw [show decide ((k : Int) < (x1.length : Int)) = true from decide_eq_true (by omega), inB_nat2 hk, hx]
    exact Ev.pos rfl (Ev.pos rfl (Ev.ofBind h fun y1 h => (Ev.ofBif h (fun h => (Ev.ofSome h)) (fun h => (Ev.ofBif h (fun h => (Ev.ofSome h)) (fun h => (Ev.ofBif h (fun h => (Ev.ofBif h (fun h => (Ev.ofBind h fun y2 h => (Ev.ofBif h (fun h => (Ev.ofSome h)) (fun h => (Ev.ofBind h fun y3 h => (Ev.ofBif h (fun h => (Ev.ofSome h)) (fun h => (Ev.ofBind h fun y4 h => (Ev.ofBif h (fun h => (Ev.ofSome h)) (fun h => (ih2  _ h))))))))))) (fun h => (Ev.ofNone h)))) (fun h => (Ev.ofBind h fun y5 h => (Ev.ofBif h (fun h => (Ev.ofSome h)) (fun h => (Ev.ofBind h fun y6 h => (Ev.ofBif h (fun h => (Ev.ofSome h)) (fun h => (ih2  _ h)))))))))))))))
theorem S_spec_GoodPolSchema (a0 : DPolSchema) {r : Bool} (h : P_spec_GoodPolSchema a0 = some r) : Ev (fun n => F_spec_GoodPolSchema n a0) r := by
  rw [P_spec_GoodPolSchema] at h
  refine Ev.of_eq ?_ (fun n => F_spec_GoodPolSchema_eq n a0)
  exact (Ev.ofBif h (fun h => (Ev.ofSome h)) (fun h => (Ev.ofBif h (fun h => (Ev.ofSome h)) (fun h => (Ev.ofLen h fun hl h => S_spec_GoodPolSchema_0_4 hl _ (0 : Nat) _ rfl h)))))
theorem hcs_spec_GoodPolSchema : ∀ x ∈ cs_spec_GoodPolSchema, CtrOk Tryd.prog x := (conOf_cons ok_spec_GoodName (conOf_cons ok_spec_l1CmpText (conOf_cons ok_spec_l11GoodTypes (conOf_cons ok_spec_l11GoodAttrs (conOf_cons ok_spec_l7Id conOf_nil)))))
theorem ok_spec_GoodPolSchema : CtrOk Tryd.prog (c_spec_GoodPolSchema) := by
  refine ctr_of_run (c := c_spec_GoodPolSchema) (by kernel_rfl) (by kernel_rfl : Tryd.prog.funcs[12]? = some Tryd.f12) (code := Tryd.f12.body.getD .skip) (by kernel_rfl) (by kernel_rfl) (by kernel_rfl) (A := A_spec_GoodPolSchema) (I := In_spec_GoodPolSchema) (hcs_spec_GoodPolSchema) ?_
  rintro ⟨a0, u⟩ y hy
  exact (S_spec_GoodPolSchema a0 hy).get

/-! ## impl.PolSchema).ything (89) -/
noncomputable def P_impl_PolSchema_ything_0_2_1003 (x1 : (List Int)) : List DThingType → Option (DThingType × Bool)
  | [] =>
      some ((([] : List Int), [], []), false)
  | e :: rest =>
      bif decide ((e).1 = x1) then
        some ((e), true)
      else
        P_impl_PolSchema_ything_0_2_1003 x1 rest
noncomputable def P_impl_PolSchema_ything (a0 : DPolSchema) (a1 : (List Int)) : Option (DThingType × Bool) :=
  lenOk a0.1 (P_impl_PolSchema_ything_0_2_1003 a1 a0.1)
noncomputable def c_impl_PolSchema_ything : Ctr := ⟨89, [TyPolSchema, .str], [TyThingType, .bool], fun x => P_impl_PolSchema_ything x.1 x.2.1⟩
def A_impl_PolSchema_ything : List (List Nat × Ann) := [([0, 2, 1003], [.keep 0 4, .keep 1 1, .keep 1 2, .keep 1 6, .keep 1 11, .keep 1 12, .keep 1 13, .boxd 0 4 TyThingType, .boxd 1 6 TyThingType])]
def In_impl_PolSchema_ything : List (List Nat × Nat) := [([1003], 113), ([4002, 1003], 114)]
noncomputable def cs_impl_PolSchema_ything : List Ctr := []
noncomputable def F_impl_PolSchema_ything (n : Nat) (a0 : DPolSchema) (a1 : (List Int)) : Option (DThingType × Bool) := run Tryd.prog A_impl_PolSchema_ything In_impl_PolSchema_ything (conOf cs_impl_PolSchema_ything) Tryd.f89 (Tryd.f89.body.getD .skip) (packT [TyThingType, .bool]) n (argsV [TyPolSchema, .str] (a0, a1, ()))
noncomputable abbrev L_impl_PolSchema_ything_0_2_1003 (n : Nat) (x1 : (List Int)) (x2 : (List DThingType)) (x3 : Int) (x4 : Int) (x5 : DThingType) (x6 : DThingType) : Option (DThingType × Bool) := lam Tryd.prog A_impl_PolSchema_ything In_impl_PolSchema_ything (conOf cs_impl_PolSchema_ything) Tryd.f89 (Tryd.f89.body.getD .skip) (packT [TyThingType, .bool]) n [0, 2, 1003] [.ptr 0 4 0, .fn 114 [], .d .str x1, .ptr 1 6 0, .d (.list TyThingType) x2, .d I64 x3, .d I64 x4, .agg (explode TyThingType x5), .agg (explode TyThingType x6)]
theorem F_impl_PolSchema_ything_eq (n : Nat) (a0 : DPolSchema) (a1 : (List Int)) : F_impl_PolSchema_ything n a0 a1 =
    L_impl_PolSchema_ything_0_2_1003 n a1 a0.1 (a0.1.length : Int) 0 (([] : List Int), [], []) (([] : List Int), [], []) := by kernel_rfl
theorem L_impl_PolSchema_ything_0_2_1003_eq (n : Nat) (x1 : (List Int)) (x2 : (List DThingType)) (x3 : Int) (x4 : Int) (x5 : DThingType) (x6 : DThingType) : L_impl_PolSchema_ything_0_2_1003 (n + 1) x1 x2 x3 x4 x5 x6 =
    bif decide (x4 < x3) then
      bif inB x4 x2.length then
        bif decide ((rd x2 x4 (Ty.dflt TyThingType)).1 = x1) then
          some ((rd x2 x4 (Ty.dflt TyThingType)), true)
        else
          L_impl_PolSchema_ything_0_2_1003 n x1 x2 x3 (IntKind.wrap .i64 (x4 + 1)) x5 x6
      else none
    else
      some ((([] : List Int), [], []), false) := by kernel_rfl
theorem S_impl_PolSchema_ything_0_2_1003 {x1 : (List Int)} {x2 : (List DThingType)} {x5 : DThingType} (hl : x2.length ≤ maxLen) : ∀ (rest : List DThingType) (k : Nat) (r : (DThingType × Bool)), rest = x2.drop k → P_impl_PolSchema_ything_0_2_1003 x1 rest = some r → Ev (fun n => L_impl_PolSchema_ything_0_2_1003 n x1 x2 (x2.length : Int) (k : Int) x5 x5) r := by
  intro rest
  induction rest with
  | nil =>
    intro k r hr h
    have hk := drop_nil hr
    rw [P_impl_PolSchema_ything_0_2_1003] at h
    refine Ev.step ?_ (fun n => L_impl_PolSchema_ything_0_2_1003_eq n x1 x2 (x2.length : Int) (k : Int) x5 x5)
    rw [show decide ((k : Int) < (x2.length : Int)) = false from decide_eq_false (by omega)]
    exact Ev.neg rfl (Ev.ofSome h)
  | cons e rest ih =>
    intro k r hr h
    obtain ⟨hk, hx, hr2⟩ := drop_cons (d := (Ty.dflt TyThingType)) hr
    have hw := wrap_succ hl hk
    have ih2 : ∀ (r : (DThingType × Bool)), P_impl_PolSchema_ything_0_2_1003 x1 rest = some r → Ev (fun n => L_impl_PolSchema_ything_0_2_1003 n x1 x2 (x2.length : Int) (IntKind.wrap .i64 ((k : Int) + 1)) x5 x5) r := by
      intro r h; rw [hw]; exact ih (k + 1) r hr2 h
    rw [P_impl_PolSchema_ything_0_2_1003] at h
    refine Ev.step ?_ (fun n => L_impl_PolSchema_ything_0_2_1003_eq n x1 x2 (x2.length : Int) (k : Int) x5 x5)
    rw [show decide ((k : Int) < (x2.length : Int)) = true from decide_eq_true (by omega), inB_nat2 hk, hx]
    exact Ev.pos rfl (Ev.pos rfl (Ev.ofBif h (fun h => (Ev.ofSome h)) (fun h => (ih2  _ h))))
theorem S_impl_PolSchema_ything (a0 : DPolSchema) (a1 : (List Int)) {r : (DThingType × Bool)} (h : P_impl_PolSchema_ything a0 a1 = some r) : Ev (fun n => F_impl_PolSchema_ything n a0 a1) r := by
  rw [P_impl_PolSchema_ything] at h
  refine Ev.of_eq ?_ (fun n => F_impl_PolSchema_ything_eq n a0 a1)
  exact (Ev.ofLen h fun hl h => S_impl_PolSchema_ything_0_2_1003 hl _ (0 : Nat) _ rfl h)
theorem hcs_impl_PolSchema_ything : ∀ x ∈ cs_impl_PolSchema_ything, CtrOk Tryd.prog x := conOf_nil
theorem ok_impl_PolSchema_ything : CtrOk Tryd.prog (c_impl_PolSchema_ything) := by
  refine ctr_of_run (c := c_impl_PolSchema_ything) (by kernel_rfl) (by kernel_rfl : Tryd.prog.funcs[89]? = some Tryd.f89) (code := Tryd.f89.body.getD .skip) (by kernel_rfl) (by kernel_rfl) (by kernel_rfl) (A := A_impl_PolSchema_ything) (I := In_impl_PolSchema_ything) (hcs_impl_PolSchema_ything) ?_
  rintro ⟨a0, a1, u⟩ y hy
  exact (S_impl_PolSchema_ything a0 a1 hy).get

/-! ## impl.PolSchema).ythingNames (49) -/
noncomputable def P_impl_PolSchema_ythingNames_0_2_1002_1005 (x5 : DPolSchema) : List (List Int) → Nat → Option Bool
  | [], k =>
      some true
  | e :: rest, k =>
      Option.bind (P_impl_PolSchema_ything x5 (e)) fun (y2 : (DThingType × Bool)) =>
      bif !(y2.2) then
        some (!decide ((0 : Int) ≤ (k : Int)))
      else
        P_impl_PolSchema_ythingNames_0_2_1002_1005 x5 rest (k + 1)
noncomputable def P_impl_PolSchema_ythingNames (a0 : DPolSchema) (a1 : (List (List Int))) : Option Bool :=
  Option.bind (P_impl_yrising a1) fun (y1 : Bool) =>
  bif y1 then
    lenOk a1 (P_impl_PolSchema_ythingNames_0_2_1002_1005 a0 a1 0)
  else
    some false
noncomputable def c_impl_PolSchema_ythingNames : Ctr := ⟨49, [TyPolSchema, (.list .str)], [.bool], fun x => P_impl_PolSchema_ythingNames x.1 x.2.1⟩
def A_impl_PolSchema_ythingNames : List (List Nat × Ann) := [([0, 2, 1002, 1005], [.keep 0 7, .keep 2 0, .keep 2 1, .keep 2 7, .keep 2 8, .boxd 0 2 TyPolSchema])]
def In_impl_PolSchema_ythingNames : List (List Nat × Nat) := [([1005], 87), ([1002, 1005], 112), ([4005, 1002, 1005], 88)]
noncomputable def cs_impl_PolSchema_ythingNames : List Ctr := [c_impl_yrising, c_impl_PolSchema_ything]
noncomputable def F_impl_PolSchema_ythingNames (n : Nat) (a0 : DPolSchema) (a1 : (List (List Int))) : Option Bool := run Tryd.prog A_impl_PolSchema_ythingNames In_impl_PolSchema_ythingNames (conOf cs_impl_PolSchema_ythingNames) Tryd.f49 (Tryd.f49.body.getD .skip) (packT [.bool]) n (argsV [TyPolSchema, (.list .str)] (a0, a1, ()))
noncomputable abbrev L_impl_PolSchema_ythingNames_0_2_1002_1005 (n : Nat) (x1 : Bool) (x2 : (List (List Int))) (x3 : Int) (x4 : Int) (x5 : DPolSchema) : Option Bool := lam Tryd.prog A_impl_PolSchema_ythingNames In_impl_PolSchema_ythingNames (conOf cs_impl_PolSchema_ythingNames) Tryd.f49 (Tryd.f49.body.getD .skip) (packT [.bool]) n [0, 2, 1002, 1005] [.d .bool x1, .d (.list .str) x2, .fn 88 [.ptr 0 2 0], .d I64 x3, .d I64 x4, .agg (explode TyPolSchema x5)]
theorem F_impl_PolSchema_ythingNames_eq (n : Nat) (a0 : DPolSchema) (a1 : (List (List Int))) : F_impl_PolSchema_ythingNames n a0 a1 =
    Option.bind (P_impl_yrising a1) fun (y1 : Bool) =>
    bif y1 then
      L_impl_PolSchema_ythingNames_0_2_1002_1005 n true a1 (a1.length : Int) 0 a0
    else
      some false := by kernel_rfl
theorem L_impl_PolSchema_ythingNames_0_2_1002_1005_eq (n : Nat) (x1 : Bool) (x2 : (List (List Int))) (x3 : Int) (x4 : Int) (x5 : DPolSchema) : L_impl_PolSchema_ythingNames_0_2_1002_1005 (n + 1) x1 x2 x3 x4 x5 =
    bif decide (x4 < x3) then
      bif inB x4 x2.length then
        Option.bind (P_impl_PolSchema_ything x5 (rd x2 x4 (Ty.dflt .str))) fun (y2 : (DThingType × Bool)) =>
        bif !(y2.2) then
          bif x1 then
            some (!decide ((0 : Int) ≤ x4))
          else
            some false
        else
          L_impl_PolSchema_ythingNames_0_2_1002_1005 n x1 x2 x3 (IntKind.wrap .i64 (x4 + 1)) x5
      else none
    else
      bif x1 then
        some true
      else
        some false := by kernel_rfl
theorem S_impl_PolSchema_ythingNames_0_2_1002_1005 {x2 : (List (List Int))} {x5 : DPolSchema} (hl : x2.length ≤ maxLen) : ∀ (rest : List (List Int)) (k : Nat) (r : Bool), rest = x2.drop k → P_impl_PolSchema_ythingNames_0_2_1002_1005 x5 rest k = some r → Ev (fun n => L_impl_PolSchema_ythingNames_0_2_1002_1005 n true x2 (x2.length : Int) (k : Int) x5) r := by
  intro rest
  induction rest with
  | nil =>
    intro k r hr h
    have hk := drop_nil hr
    rw [P_impl_PolSchema_ythingNames_0_2_1002_1005] at h
    refine Ev.step ?_ (fun n => L_impl_PolSchema_ythingNames_0_2_1002_1005_eq n true x2 (x2.length : Int) (k : Int) x5)
    rw [show decide ((k : Int) < (x2.length : Int)) = false from decide_eq_false (by omega)]
    exact Ev.neg rfl (Ev.pos rfl (Ev.ofSome h))
  | cons e rest ih =>
    intro k r hr h
    obtain ⟨hk, hx, hr2⟩ := drop_cons (d := (Ty.dflt .str)) hr
    have hw := wrap_succ hl hk
    have ih2 : ∀ (r : Bool), P_impl_PolSchema_ythingNames_0_2_1002_1005 x5 rest (k + 1) = some r → Ev (fun n => L_impl_PolSchema_ythingNames_0_2_1002_1005 n true x2 (x2.length : Int) (IntKind.wrap .i64 ((k : Int) + 1)) x5) r := by
      intro r h; rw [hw]; exact ih (k + 1) r hr2 h
    rw [P_impl_PolSchema_ythingNames_0_2_1002_1005] at h
    refine Ev.step ?_ (fun n => L_impl_PolSchema_ythingNames_0_2_1002_1005_eq n true x2 (x2.length : Int) (k : Int) x5)
    rw [show decide ((k : Int) < (x2.length : Int)) = true from decide_eq_true (by omega), inB_nat2 hk, hx]
    exact Ev.pos rfl (Ev.pos rfl (Ev.ofBind h fun y2 h => (Ev.ofBif h (fun h => (Ev.pos rfl (Ev.ofSome h))) (fun h => (ih2  _ h)))))
theorem S_impl_PolSchema_ythingNames (a0 : DPolSchema) (a1 : (List (List Int))) {r : Bool} (h : P_impl_PolSchema_ythingNames a0 a1 = some r) : Ev (fun n => F_impl_PolSchema_ythingNames n a0 a1) r := by
  rw [P_impl_PolSchema_ythingNames] at h
  refine Ev.of_eq ?_ (fun n => F_impl_PolSchema_ythingNames_eq n a0 a1)
  exact (Ev.ofBind h fun y1 h => (Ev.ofBif h (fun h => (Ev.ofLen h fun hl h => S_impl_PolSchema_ythingNames_0_2_1002_1005 hl _ (0 : Nat) _ rfl h)) (fun h => (Ev.ofSome h))))
theorem hcs_impl_PolSchema_ythingNames : ∀ x ∈ cs_impl_PolSchema_ythingNames, CtrOk Tryd.prog x := (conOf_cons ok_impl_yrising (conOf_cons ok_impl_PolSchema_ything conOf_nil))
theorem ok_impl_PolSchema_ythingNames : CtrOk Tryd.prog (c_impl_PolSchema_ythingNames) := by
  refine ctr_of_run (c := c_impl_PolSchema_ythingNames) (by kernel_rfl) (by kernel_rfl : Tryd.prog.funcs[49]? = some Tryd.f49) (code := Tryd.f49.body.getD .skip) (by kernel_rfl) (by kernel_rfl) (by kernel_rfl) (A := A_impl_PolSchema_ythingNames) (I := In_impl_PolSchema_ythingNames) (hcs_impl_PolSchema_ythingNames) ?_
  rintro ⟨a0, a1, u⟩ y hy
  exact (S_impl_PolSchema_ythingNames a0 a1 hy).get

/-! ## stringslite.TrimPrefix (128) -/
noncomputable def P_stringslite_TrimPrefix (a0 : (List Int)) (a1 : (List Int)) : Option (List Int) :=
  Option.bind (P_stringslite_HasPrefix a0 a1) fun (y1 : Bool) =>
  bif y1 then
    bif decide ((0 : Int) ≤ (a1.length : Int)) && decide ((a1.length : Int) ≤ (a0.length : Int)) then
      some (cut a0 (a1.length : Int) (a0.length : Int))
    else none
  else
    some a0
noncomputable def c_stringslite_TrimPrefix : Ctr := ⟨128, [.str, .str], [.str], fun x => P_stringslite_TrimPrefix x.1 x.2.1⟩
def A_stringslite_TrimPrefix : List (List Nat × Ann) := []
def In_stringslite_TrimPrefix : List (List Nat × Nat) := []
noncomputable def cs_stringslite_TrimPrefix : List Ctr := [c_stringslite_HasPrefix]
noncomputable def F_stringslite_TrimPrefix (n : Nat) (a0 : (List Int)) (a1 : (List Int)) : Option (List Int) := run Tryd.prog A_stringslite_TrimPrefix In_stringslite_TrimPrefix (conOf cs_stringslite_TrimPrefix) Tryd.f128 (Tryd.f128.body.getD .skip) (packT [.str]) n (argsV [.str, .str] (a0, a1, ()))
theorem F_stringslite_TrimPrefix_eq (n : Nat) (a0 : (List Int)) (a1 : (List Int)) : F_stringslite_TrimPrefix n a0 a1 =
    Option.bind (P_stringslite_HasPrefix a0 a1) fun (y1 : Bool) =>
    bif y1 then
      bif decide ((0 : Int) ≤ (a1.length : Int)) && decide ((a1.length : Int) ≤ (a0.length : Int)) then
        some (cut a0 (a1.length : Int) (a0.length : Int))
      else none
    else
      some a0 := by kernel_rfl
theorem S_stringslite_TrimPrefix (a0 : (List Int)) (a1 : (List Int)) {r : (List Int)} (h : P_stringslite_TrimPrefix a0 a1 = some r) : Ev (fun n => F_stringslite_TrimPrefix n a0 a1) r := by
  rw [P_stringslite_TrimPrefix] at h
  refine Ev.of_eq ?_ (fun n => F_stringslite_TrimPrefix_eq n a0 a1)
  exact (Ev.ofBind h fun y1 h => (Ev.ofBif h (fun h => (Ev.ofBif h (fun h => (Ev.ofSome h)) (fun h => (Ev.ofNone h)))) (fun h => (Ev.ofSome h))))
theorem hcs_stringslite_TrimPrefix : ∀ x ∈ cs_stringslite_TrimPrefix, CtrOk Tryd.prog x := (conOf_cons ok_stringslite_HasPrefix conOf_nil)
theorem ok_stringslite_TrimPrefix : CtrOk Tryd.prog (c_stringslite_TrimPrefix) := by
  refine ctr_of_run (c := c_stringslite_TrimPrefix) (by kernel_rfl) (by kernel_rfl : Tryd.prog.funcs[128]? = some Tryd.f128) (code := Tryd.f128.body.getD .skip) (by kernel_rfl) (by kernel_rfl) (by kernel_rfl) (A := A_stringslite_TrimPrefix) (I := In_stringslite_TrimPrefix) (hcs_stringslite_TrimPrefix) ?_
  rintro ⟨a0, a1, u⟩ y hy
  exact (S_stringslite_TrimPrefix a0 a1 hy).get

/-! ## strings.TrimPrefix (115) -/
noncomputable def P_strings_TrimPrefix (a0 : (List Int)) (a1 : (List Int)) : Option (List Int) :=
  Option.bind (P_stringslite_TrimPrefix a0 a1) fun (y1 : (List Int)) =>
  some y1
noncomputable def c_strings_TrimPrefix : Ctr := ⟨115, [.str, .str], [.str], fun x => P_strings_TrimPrefix x.1 x.2.1⟩
def A_strings_TrimPrefix : List (List Nat × Ann) := []
def In_strings_TrimPrefix : List (List Nat × Nat) := []
noncomputable def cs_strings_TrimPrefix : List Ctr := [c_stringslite_TrimPrefix]
noncomputable def F_strings_TrimPrefix (n : Nat) (a0 : (List Int)) (a1 : (List Int)) : Option (List Int) := run Tryd.prog A_strings_TrimPrefix In_strings_TrimPrefix (conOf cs_strings_TrimPrefix) Tryd.f115 (Tryd.f115.body.getD .skip) (packT [.str]) n (argsV [.str, .str] (a0, a1, ()))
theorem F_strings_TrimPrefix_eq (n : Nat) (a0 : (List Int)) (a1 : (List Int)) : F_strings_TrimPrefix n a0 a1 =
    Option.bind (P_stringslite_TrimPrefix a0 a1) fun (y1 : (List Int)) =>
    some y1 := by kernel_rfl
theorem S_strings_TrimPrefix (a0 : (List Int)) (a1 : (List Int)) {r : (List Int)} (h : P_strings_TrimPrefix a0 a1 = some r) : Ev (fun n => F_strings_TrimPrefix n a0 a1) r := by
  rw [P_strings_TrimPrefix] at h
  refine Ev.of_eq ?_ (fun n => F_strings_TrimPrefix_eq n a0 a1)
  exact (Ev.ofBind h fun y1 h => (Ev.ofSome h))
theorem hcs_strings_TrimPrefix : ∀ x ∈ cs_strings_TrimPrefix, CtrOk Tryd.prog x := (conOf_cons ok_stringslite_TrimPrefix conOf_nil)
theorem ok_strings_TrimPrefix : CtrOk Tryd.prog (c_strings_TrimPrefix) := by
  refine ctr_of_run (c := c_strings_TrimPrefix) (by kernel_rfl) (by kernel_rfl : Tryd.prog.funcs[115]? = some Tryd.f115) (code := Tryd.f115.body.getD .skip) (by kernel_rfl) (by kernel_rfl) (by kernel_rfl) (A := A_strings_TrimPrefix) (I := In_strings_TrimPrefix) (hcs_strings_TrimPrefix) ?_
  rintro ⟨a0, a1, u⟩ y hy
  exact (S_strings_TrimPrefix a0 a1 hy).get

/-! ## impl.PolSchema).ygoodKind (90) -/
noncomputable def P_impl_PolSchema_ygoodKind (g0 : (List ((List Int) × Int))) (a0 : DPolSchema) (a1 : (List Int)) : Option Bool :=
  Option.bind (P_strings_TrimPrefix a1 ([115, 101, 116, 32] : List Int)) fun (y1 : (List Int)) =>
  Option.bind (P_strings_CutPrefix y1 ([114, 101, 102, 32] : List Int)) fun (y2 : ((List Int) × Bool)) =>
  bif y2.2 then
    Option.bind (P_impl_PolSchema_ything a0 y2.1) fun (y3 : (DThingType × Bool)) =>
    some y3.2
  else
    some (decide ((0 : Int) < getM .str g0 y1 0))
noncomputable def c_impl_PolSchema_ygoodKind (g0 : (List ((List Int) × Int))) : Ctr := ⟨90, [TyPolSchema, .str], [.bool], fun x => P_impl_PolSchema_ygoodKind g0 x.1 x.2.1⟩
def A_impl_PolSchema_ygoodKind : List (List Nat × Ann) := []
def In_impl_PolSchema_ygoodKind : List (List Nat × Nat) := []
noncomputable def cs_impl_PolSchema_ygoodKind (g0 : (List ((List Int) × Int))) : List Ctr := [c_strings_TrimPrefix, c_strings_CutPrefix, c_impl_PolSchema_ything]
noncomputable def F_impl_PolSchema_ygoodKind (g0 : (List ((List Int) × Int))) (n : Nat) (a0 : DPolSchema) (a1 : (List Int)) : Option Bool := runE Tryd.prog (glOf [(0, explode (.map .str I64) g0)]) A_impl_PolSchema_ygoodKind In_impl_PolSchema_ygoodKind (conOf (cs_impl_PolSchema_ygoodKind g0)) Tryd.f90 (Tryd.f90.body.getD .skip) (endD Tryd.prog Tryd.f90 (packT [.bool])) n (argsV [TyPolSchema, .str] (a0, a1, ()))
theorem F_impl_PolSchema_ygoodKind_eq (g0 : (List ((List Int) × Int))) (n : Nat) (a0 : DPolSchema) (a1 : (List Int)) : F_impl_PolSchema_ygoodKind g0 n a0 a1 =
    Option.bind (P_strings_TrimPrefix a1 ([115, 101, 116, 32] : List Int)) fun (y1 : (List Int)) =>
    Option.bind (P_strings_CutPrefix y1 ([114, 101, 102, 32] : List Int)) fun (y2 : ((List Int) × Bool)) =>
    bif y2.2 then
      Option.bind (P_impl_PolSchema_ything a0 y2.1) fun (y3 : (DThingType × Bool)) =>
      some y3.2
    else
      some (decide ((0 : Int) < getM .str g0 y1 0)) := by kernel_rfl
theorem S_impl_PolSchema_ygoodKind {g0 : (List ((List Int) × Int))} (a0 : DPolSchema) (a1 : (List Int)) {r : Bool} (h : P_impl_PolSchema_ygoodKind g0 a0 a1 = some r) : Ev (fun n => F_impl_PolSchema_ygoodKind g0 n a0 a1) r := by
  rw [P_impl_PolSchema_ygoodKind] at h
  refine Ev.of_eq ?_ (fun n => F_impl_PolSchema_ygoodKind_eq g0 n a0 a1)
  exact (Ev.ofBind h fun y1 h => (Ev.ofBind h fun y2 h => (Ev.ofBif h (fun h => (Ev.ofBind h fun y3 h => (Ev.ofSome h))) (fun h => (Ev.ofSome h)))))
theorem hcs_impl_PolSchema_ygoodKind (g0 : (List ((List Int) × Int))) : ∀ x ∈ cs_impl_PolSchema_ygoodKind g0, CtrOkG Tryd.prog (glOf [(0, explode (.map .str I64) g0)]) x := (conOf_cons ok_strings_TrimPrefix.any (conOf_cons ok_strings_CutPrefix.any (conOf_cons ok_impl_PolSchema_ything.any conOf_nil)))
theorem ok_impl_PolSchema_ygoodKind (g0 : (List ((List Int) × Int))) : CtrOkG Tryd.prog (glOf [(0, explode (.map .str I64) g0)]) (c_impl_PolSchema_ygoodKind g0) := by
  refine ctr_of_run (c := c_impl_PolSchema_ygoodKind g0) (by kernel_rfl) (by kernel_rfl : Tryd.prog.funcs[90]? = some Tryd.f90) (code := Tryd.f90.body.getD .skip) (by kernel_rfl) (by kernel_rfl) (by kernel_rfl) (A := A_impl_PolSchema_ygoodKind) (I := In_impl_PolSchema_ygoodKind) (hcs_impl_PolSchema_ygoodKind g0) ?_
  rintro ⟨a0, a1, u⟩ y hy
  exact (S_impl_PolSchema_ygoodKind a0 a1 hy).get

/-! ## impl.PolSchema).ygoodAttrs (50) -/
noncomputable def P_impl_PolSchema_ygoodAttrs_0_4 (g0 : (List ((List Int) × Int))) (x1 : (List DAttrKind)) (x5 : DPolSchema) : List DAttrKind → Nat → Option Bool
  | [], k =>
      some true
  | e :: rest, k =>
      Option.bind (P_impl_GoodName ((e).1)) fun (y1 : Bool) =>
      bif !(y1) then
        some false
      else
        bif decide ((0 : Int) < (k : Int)) then
          bif inB (IntKind.wrap .i64 ((k : Int) - 1)) x1.length then
            bif !lessI ((rd x1 (IntKind.wrap .i64 ((k : Int) - 1)) (Ty.dflt TyAttrKind)).1) ((e).1) then
              some false
            else
              Option.bind (P_impl_PolSchema_ygoodKind g0 x5 (((e).2).1)) fun (y2 : Bool) =>
              bif !(y2) then
                some false
              else
                P_impl_PolSchema_ygoodAttrs_0_4 g0 x1 x5 rest (k + 1)
          else none
        else
          Option.bind (P_impl_PolSchema_ygoodKind g0 x5 (((e).2).1)) fun (y3 : Bool) =>
          bif !(y3) then
            some false
          else
            P_impl_PolSchema_ygoodAttrs_0_4 g0 x1 x5 rest (k + 1)
noncomputable def P_impl_PolSchema_ygoodAttrs (g0 : (List ((List Int) × Int))) (a0 : DPolSchema) (a1 : (List DAttrKind)) : Option Bool :=
  bif decide ((20 : Int) < (a1.length : Int)) then
    some false
  else
    lenOk a1 (P_impl_PolSchema_ygoodAttrs_0_4 g0 a1 a0 a1 0)
noncomputable def c_impl_PolSchema_ygoodAttrs (g0 : (List ((List Int) × Int))) : Ctr := ⟨50, [TyPolSchema, (.list TyAttrKind)], [.bool], fun x => P_impl_PolSchema_ygoodAttrs g0 x.1 x.2.1⟩
def A_impl_PolSchema_ygoodAttrs : List (List Nat × Ann) := [([0, 4], [.keep 0 1, .keep 0 2, .keep 0 10, .keep 0 11, .keep 0 12, .boxd 0 2 TyPolSchema])]
def In_impl_PolSchema_ygoodAttrs : List (List Nat × Nat) := []
noncomputable def cs_impl_PolSchema_ygoodAttrs (g0 : (List ((List Int) × Int))) : List Ctr := [c_impl_GoodName, (c_impl_PolSchema_ygoodKind g0)]
noncomputable def F_impl_PolSchema_ygoodAttrs (g0 : (List ((List Int) × Int))) (n : Nat) (a0 : DPolSchema) (a1 : (List DAttrKind)) : Option Bool := runE Tryd.prog (glOf [(0, explode (.map .str I64) g0)]) A_impl_PolSchema_ygoodAttrs In_impl_PolSchema_ygoodAttrs (conOf (cs_impl_PolSchema_ygoodAttrs g0)) Tryd.f50 (Tryd.f50.body.getD .skip) (endD Tryd.prog Tryd.f50 (packT [.bool])) n (argsV [TyPolSchema, (.list TyAttrKind)] (a0, a1, ()))
noncomputable abbrev L_impl_PolSchema_ygoodAttrs_0_4 (g0 : (List ((List Int) × Int))) (n : Nat) (x1 : (List DAttrKind)) (x2 : (List DAttrKind)) (x3 : Int) (x4 : Int) (x5 : DPolSchema) : Option Bool := lamE Tryd.prog (glOf [(0, explode (.map .str I64) g0)]) A_impl_PolSchema_ygoodAttrs In_impl_PolSchema_ygoodAttrs (conOf (cs_impl_PolSchema_ygoodAttrs g0)) Tryd.f50 (Tryd.f50.body.getD .skip) (endD Tryd.prog Tryd.f50 (packT [.bool])) n [0, 4] [.d (.list TyAttrKind) x1, .ptr 0 2 0, .d (.list TyAttrKind) x2, .d I64 x3, .d I64 x4, .agg (explode TyPolSchema x5)]
theorem F_impl_PolSchema_ygoodAttrs_eq (g0 : (List ((List Int) × Int))) (n : Nat) (a0 : DPolSchema) (a1 : (List DAttrKind)) : F_impl_PolSchema_ygoodAttrs g0 n a0 a1 =
    bif decide ((20 : Int) < (a1.length : Int)) then
      some false
    else
      L_impl_PolSchema_ygoodAttrs_0_4 g0 n a1 a1 (a1.length : Int) 0 a0 := by kernel_rfl
theorem L_impl_PolSchema_ygoodAttrs_0_4_eq (g0 : (List ((List Int) × Int))) (n : Nat) (x1 : (List DAttrKind)) (x2 : (List DAttrKind)) (x3 : Int) (x4 : Int) (x5 : DPolSchema) : L_impl_PolSchema_ygoodAttrs_0_4 g0 (n + 1) x1 x2 x3 x4 x5 =
    bif decide (x4 < x3) then
      bif inB x4 x2.length then
        Option.bind (P_impl_GoodName ((rd x2 x4 (Ty.dflt TyAttrKind)).1)) fun (y1 : Bool) =>
        bif !(y1) then
          some false
        else
          bif decide ((0 : Int) < x4) then
            bif inB (IntKind.wrap .i64 (x4 - 1)) x1.length then
              bif !lessI ((rd x1 (IntKind.wrap .i64 (x4 - 1)) (Ty.dflt TyAttrKind)).1) ((rd x2 x4 (Ty.dflt TyAttrKind)).1) then
                some false
              else
                Option.bind (P_impl_PolSchema_ygoodKind g0 x5 (((rd x2 x4 (Ty.dflt TyAttrKind)).2).1)) fun (y2 : Bool) =>
                bif !(y2) then
                  some false
                else
                  L_impl_PolSchema_ygoodAttrs_0_4 g0 n x1 x2 x3 (IntKind.wrap .i64 (x4 + 1)) x5
            else none
          else
            Option.bind (P_impl_PolSchema_ygoodKind g0 x5 (((rd x2 x4 (Ty.dflt TyAttrKind)).2).1)) fun (y3 : Bool) =>
            bif !(y3) then
              some false
            else
              L_impl_PolSchema_ygoodAttrs_0_4 g0 n x1 x2 x3 (IntKind.wrap .i64 (x4 + 1)) x5
      else none
    else
      some true := by kernel_rfl
theorem S_impl_PolSchema_ygoodAttrs_0_4 {g0 : (List ((List Int) × Int))} {x1 : (List DAttrKind)} {x5 : DPolSchema} (hl : x1.length ≤ maxLen) : ∀ (rest : List DAttrKind) (k : Nat) (r : Bool), rest = x1.drop k → P_impl_PolSchema_ygoodAttrs_0_4 g0 x1 x5 rest k = some r → Ev (fun n => L_impl_PolSchema_ygoodAttrs_0_4 g0 n x1 x1 (x1.length : Int) (k : Int) x5) r := by
  intro rest
  induction rest with
  | nil =>
    intro k r hr h
    have hk := drop_nil hr
    rw [P_impl_PolSchema_ygoodAttrs_0_4] at h
    refine Ev.step ?_ (fun n => L_impl_PolSchema_ygoodAttrs_0_4_eq g0 n x1 x1 (x1.length : Int) (k : Int) x5)
    rw [show decide ((k : Int) < (x1.length : Int)) = false from decide_eq_false (by omega)]
    exact Ev.neg rfl (Ev.ofSome h)
  | cons e rest ih =>
    intro k r hr h
    obtain ⟨hk, hx, hr2⟩ := drop_cons (d := (Ty.dflt TyAttrKind)) hr
    have hw := wrap_succ hl hk
    have ih2 : ∀ (r : Bool), P_impl_PolSchema_ygoodAttrs_0_4 g0 x1 x5 rest (k + 1) = some r → Ev (fun n => L_impl_PolSchema_ygoodAttrs_0_4 g0 n x1 x1 (x1.length : Int) (IntKind.wrap .i64 ((k : Int) + 1)) x5) r := by
      intro r h; rw [hw]; exact ih (k + 1) r hr2 h
    rw [P_impl_PolSchema_ygoodAttrs_0_4] at h
    refine Ev.step ?_ (fun n => L_impl_PolSchema_ygoodAttrs_0_4_eq g0 n x1 x1 (x1.length : Int) (k : Int) x5)
    rw [show decide ((k : Int) < (x1.length : Int)) = true from decide_eq_true (by omega), inB_nat2 hk, hx]
    exact Ev.pos rfl (Ev.pos rfl (Ev.ofBind h fun y1 h => (Ev.ofBif h (fun h => (Ev.ofSome h)) (fun h => (Ev.ofBif h (fun h => (Ev.ofBif h (fun h => (Ev.ofBif h (fun h => (Ev.ofSome h)) (fun h => (Ev.ofBind h fun y2 h => (Ev.ofBif h (fun h => (Ev.ofSome h)) (fun h => (ih2  _ h))))))) (fun h => (Ev.ofNone h)))) (fun h => (Ev.ofBind h fun y3 h => (Ev.ofBif h (fun h => (Ev.ofSome h)) (fun h => (ih2  _ h))))))))))
theorem S_impl_PolSchema_ygoodAttrs {g0 : (List ((List Int) × Int))} (a0 : DPolSchema) (a1 : (List DAttrKind)) {r : Bool} (h : P_impl_PolSchema_ygoodAttrs g0 a0 a1 = some r) : Ev (fun n => F_impl_PolSchema_ygoodAttrs g0 n a0 a1) r := by
  rw [P_impl_PolSchema_ygoodAttrs] at h
  refine Ev.of_eq ?_ (fun n => F_impl_PolSchema_ygoodAttrs_eq g0 n a0 a1)
  exact (Ev.ofBif h (fun h => (Ev.ofSome h)) (fun h => (Ev.ofLen h fun hl h => S_impl_PolSchema_ygoodAttrs_0_4 hl _ (0 : Nat) _ rfl h)))
theorem hcs_impl_PolSchema_ygoodAttrs (g0 : (List ((List Int) × Int))) : ∀ x ∈ cs_impl_PolSchema_ygoodAttrs g0, CtrOkG Tryd.prog (glOf [(0, explode (.map .str I64) g0)]) x := (conOf_cons ok_impl_GoodName.any (conOf_cons (ok_impl_PolSchema_ygoodKind g0) conOf_nil))
theorem ok_impl_PolSchema_ygoodAttrs (g0 : (List ((List Int) × Int))) : CtrOkG Tryd.prog (glOf [(0, explode (.map .str I64) g0)]) (c_impl_PolSchema_ygoodAttrs g0) := by
  refine ctr_of_run (c := c_impl_PolSchema_ygoodAttrs g0) (by kernel_rfl) (by kernel_rfl : Tryd.prog.funcs[50]? = some Tryd.f50) (code := Tryd.f50.body.getD .skip) (by kernel_rfl) (by kernel_rfl) (by kernel_rfl) (A := A_impl_PolSchema_ygoodAttrs) (I := In_impl_PolSchema_ygoodAttrs) (hcs_impl_PolSchema_ygoodAttrs g0) ?_
  rintro ⟨a0, a1, u⟩ y hy
  exact (S_impl_PolSchema_ygoodAttrs a0 a1 hy).get

/-! ## impl.ygoodId (51) -/
noncomputable def P_impl_ygoodId_0_4 : List Int → Option Bool
  | [] =>
      some true
  | e :: rest =>
      bif !(T_impl_ywordByte (e)) then
        bif !decide (e = 45) then
          bif !decide (e = 46) then
            some false
          else
            P_impl_ygoodId_0_4 rest
        else
          P_impl_ygoodId_0_4 rest
      else
        P_impl_ygoodId_0_4 rest
noncomputable def P_impl_ygoodId (a0 : (List Int)) : Option Bool :=
  bif decide ((a0.length : Int) < 1) then
    some false
  else
    bif decide ((40 : Int) < (a0.length : Int)) then
      some false
    else
      lenOk a0 (P_impl_ygoodId_0_4 a0)
noncomputable def c_impl_ygoodId : Ctr := ⟨51, [.str], [.bool], fun x => P_impl_ygoodId x.1⟩
def A_impl_ygoodId : List (List Nat × Ann) := [([0, 4], [.keep 0 0, .keep 0 13, .keep 0 14])]
def In_impl_ygoodId : List (List Nat × Nat) := []
noncomputable def cs_impl_ygoodId : List Ctr := [c_impl_ywordByte]
noncomputable def F_impl_ygoodId (n : Nat) (a0 : (List Int)) : Option Bool := run Tryd.prog A_impl_ygoodId In_impl_ygoodId (conOf cs_impl_ygoodId) Tryd.f51 (Tryd.f51.body.getD .skip) (packT [.bool]) n (argsV [.str] (a0, ()))
noncomputable abbrev L_impl_ygoodId_0_4 (n : Nat) (x1 : (List Int)) (x2 : Int) (x3 : Int) : Option Bool := lam Tryd.prog A_impl_ygoodId In_impl_ygoodId (conOf cs_impl_ygoodId) Tryd.f51 (Tryd.f51.body.getD .skip) (packT [.bool]) n [0, 4] [.d .str x1, .d I64 x2, .d I64 x3]
theorem F_impl_ygoodId_eq (n : Nat) (a0 : (List Int)) : F_impl_ygoodId n a0 =
    bif decide ((a0.length : Int) < 1) then
      some false
    else
      bif decide ((40 : Int) < (a0.length : Int)) then
        some false
      else
        L_impl_ygoodId_0_4 n a0 (a0.length : Int) 0 := by kernel_rfl
theorem L_impl_ygoodId_0_4_eq (n : Nat) (x1 : (List Int)) (x2 : Int) (x3 : Int) : L_impl_ygoodId_0_4 (n + 1) x1 x2 x3 =
    bif decide (x3 < x2) then
      bif inB x3 x1.length then
        bif !(T_impl_ywordByte (rd x1 x3 0)) then
          bif inB x3 x1.length then
            bif !decide (rd x1 x3 0 = 45) then
              bif inB x3 x1.length then
                bif !decide (rd x1 x3 0 = 46) then
                  some false
                else
                  L_impl_ygoodId_0_4 n x1 x2 (IntKind.wrap .i64 (x3 + 1))
              else none
            else
              L_impl_ygoodId_0_4 n x1 x2 (IntKind.wrap .i64 (x3 + 1))
          else none
        else
          L_impl_ygoodId_0_4 n x1 x2 (IntKind.wrap .i64 (x3 + 1))
      else none
    else
      some true := by kernel_rfl
theorem S_impl_ygoodId_0_4 {x1 : (List Int)} (hl : x1.length ≤ maxLen) : ∀ (rest : List Int) (k : Nat) (r : Bool), rest = x1.drop k → P_impl_ygoodId_0_4 rest = some r → Ev (fun n => L_impl_ygoodId_0_4 n x1 (x1.length : Int) (k : Int)) r := by
  intro rest
  induction rest with
  | nil =>
    intro k r hr h
    have hk := drop_nil hr
    rw [P_impl_ygoodId_0_4] at h
    refine Ev.step ?_ (fun n => L_impl_ygoodId_0_4_eq n x1 (x1.length : Int) (k : Int))
    rw [show decide ((k : Int) < (x1.length : Int)) = false from decide_eq_false (by omega)]
    exact Ev.neg rfl (Ev.ofSome h)
  | cons e rest ih =>
    intro k r hr h
    obtain ⟨hk, hx, hr2⟩ := drop_cons (d := 0) hr
    have hw := wrap_succ hl hk
    have ih2 : ∀ (r : Bool), P_impl_ygoodId_0_4 rest = some r → Ev (fun n => L_impl_ygoodId_0_4 n x1 (x1.length : Int) (IntKind.wrap .i64 ((k : Int) + 1))) r := by
      intro r h; rw [hw]; exact ih (k + 1) r hr2 h
    rw [P_impl_ygoodId_0_4] at h
    refine Ev.step ?_ (fun n => L_impl_ygoodId_0_4_eq n x1 (x1.length : Int) (k : Int))
    rw [show decide ((k : Int) < (x1.length : Int)) = true from decide_eq_true (by omega), inB_nat2 hk, hx]
    exact Ev.pos rfl (Ev.pos rfl (Ev.ofBif h (fun h => (Ev.pos rfl (Ev.ofBif h (fun h => (Ev.pos rfl (Ev.ofBif h (fun h => (Ev.ofSome h)) (fun h => (ih2  _ h))))) (fun h => (ih2  _ h))))) (fun h => (ih2  _ h))))
theorem S_impl_ygoodId (a0 : (List Int)) {r : Bool} (h : P_impl_ygoodId a0 = some r) : Ev (fun n => F_impl_ygoodId n a0) r := by
  rw [P_impl_ygoodId] at h
  refine Ev.of_eq ?_ (fun n => F_impl_ygoodId_eq n a0)
  exact (Ev.ofBif h (fun h => (Ev.ofSome h)) (fun h => (Ev.ofBif h (fun h => (Ev.ofSome h)) (fun h => (Ev.ofLen h fun hl h => S_impl_ygoodId_0_4 hl _ (0 : Nat) _ rfl h)))))
theorem hcs_impl_ygoodId : ∀ x ∈ cs_impl_ygoodId, CtrOk Tryd.prog x := (conOf_cons ok_impl_ywordByte conOf_nil)
theorem ok_impl_ygoodId : CtrOk Tryd.prog (c_impl_ygoodId) := by
  refine ctr_of_run (c := c_impl_ygoodId) (by kernel_rfl) (by kernel_rfl : Tryd.prog.funcs[51]? = some Tryd.f51) (code := Tryd.f51.body.getD .skip) (by kernel_rfl) (by kernel_rfl) (by kernel_rfl) (A := A_impl_ygoodId) (I := In_impl_ygoodId) (hcs_impl_ygoodId) ?_
  rintro ⟨a0, u⟩ y hy
  exact (S_impl_ygoodId a0 hy).get

end Go.Ab
