/- generated -/
import Derived.Test.YtlhbebagmkeghaaAb23
import Derived.Test.YtlhbebagmkeghaaProg
import Derived.KernelRfl
namespace Go.Ab
open Go.Proofs
set_option maxRecDepth 20000
abbrev I64 : Ty := .int .i64
abbrev U8 : Ty := .int .u8
abbrev TyboundsError : Ty := (.pair I64 (.pair I64 (.pair .bool U8)))
abbrev DboundsError : Type := (Int × (Int × (Bool × Int)))
abbrev TyerrorAddressString : Ty := (.pair .str (.int .u64))
abbrev DerrorAddressString : Type := ((List Int) × Int)
abbrev TyAtom : Ty := (.pair I64 (.pair I64 (.pair .str .str)))
abbrev DAtom : Type := (Int × (Int × ((List Int) × (List Int))))
abbrev TyValue : Ty := (.pair I64 (.pair TyAtom (.pair (.list TyAtom) (.list .str))))
abbrev DValue : Type := (Int × (DAtom × ((List DAtom) × (List (List Int)))))
abbrev TyThing : Ty := (.pair TyAtom (.pair (.list TyAtom) (.pair (.list .str) (.list TyValue))))
abbrev DThing : Type := (DAtom × ((List DAtom) × ((List (List Int)) × (List DValue))))
abbrev TyHead : Ty := (.pair I64 (.pair TyAtom .str))
abbrev DHead : Type := (Int × (DAtom × (List Int)))
abbrev TyRole : Ty := (.pair .str (.pair (.list .str) (.list .str)))
abbrev DRole : Type := ((List Int) × ((List (List Int)) × (List (List Int))))
abbrev TyApart : Ty := (.pair (.list .str) (.pair I64 .bool))
abbrev DApart : Type := ((List (List Int)) × (Int × Bool))
abbrev TyRoleSet : Ty := (.pair (.list TyRole) (.pair (.list TyApart) (.list .str)))
abbrev DRoleSet : Type := ((List DRole) × ((List DApart) × (List (List Int))))
abbrev TyRoleGrant : Ty := (.pair .str (.pair .str (.pair .str (.pair I64 (.pair I64 I64)))))
abbrev DRoleGrant : Type := ((List Int) × ((List Int) × ((List Int) × (Int × (Int × Int)))))
abbrev TyRoleSession : Ty := (.pair .str (.pair .str (.pair (.list .str) (.pair (.list TyRoleGrant) .bool))))
abbrev DRoleSession : Type := ((List Int) × ((List Int) × ((List (List Int)) × ((List DRoleGrant) × Bool))))
abbrev TyRoleState : Ty := (.pair (.list I64) (.pair (.list TyRoleGrant) (.pair (.list TyRoleSession) I64)))
abbrev DRoleState : Type := ((List Int) × ((List DRoleGrant) × ((List DRoleSession) × Int)))
/-! ## spec.l1Printed (132) -/
noncomputable def P_spec_l1Printed_0_2 : List Int → Option Bool
  | [] =>
      some true
  | e :: rest =>
      bif decide (e < 32) then
        some false
      else
        bif decide ((126 : Int) < e) then
          some false
        else
          P_spec_l1Printed_0_2 rest
noncomputable def P_spec_l1Printed (a0 : (List Int)) : Option Bool :=
  lenOk a0 (P_spec_l1Printed_0_2 a0)
noncomputable def c_spec_l1Printed : Ctr := ⟨132, [.str], [.bool], fun x => P_spec_l1Printed x.1⟩
def A_spec_l1Printed : List (List Nat × Ann) := [([0, 2], [.keep 0 0, .keep 0 3])]
def In_spec_l1Printed : List (List Nat × Nat) := []
noncomputable def cs_spec_l1Printed : List Ctr := []
noncomputable def F_spec_l1Printed (n : Nat) (a0 : (List Int)) : Option Bool := run Try.prog A_spec_l1Printed In_spec_l1Printed (conOf cs_spec_l1Printed) Try.f132 (Try.f132.body.getD .skip) (packT [.bool]) n (argsV [.str] (a0, ()))
noncomputable abbrev L_spec_l1Printed_0_2 (n : Nat) (x1 : (List Int)) (x2 : Int) : Option Bool := lam Try.prog A_spec_l1Printed In_spec_l1Printed (conOf cs_spec_l1Printed) Try.f132 (Try.f132.body.getD .skip) (packT [.bool]) n [0, 2] [.d .str x1, .d I64 x2]
theorem F_spec_l1Printed_eq (n : Nat) (a0 : (List Int)) : F_spec_l1Printed n a0 =
    L_spec_l1Printed_0_2 n a0 0 := by kernel_rfl
theorem L_spec_l1Printed_0_2_eq (n : Nat) (x1 : (List Int)) (x2 : Int) : L_spec_l1Printed_0_2 (n + 1) x1 x2 =
    bif decide (x2 < (x1.length : Int)) then
      bif inB x2 x1.length then
        bif decide (rd x1 x2 0 < 32) then
          some false
        else
          bif inB x2 x1.length then
            bif decide ((126 : Int) < rd x1 x2 0) then
              some false
            else
              L_spec_l1Printed_0_2 n x1 (IntKind.wrap .i64 (x2 + 1))
          else none
      else none
    else
      some true := by kernel_rfl
theorem S_spec_l1Printed_0_2 {x1 : (List Int)} (hl : x1.length ≤ maxLen) : ∀ (rest : List Int) (k : Nat) (r : Bool), rest = x1.drop k → P_spec_l1Printed_0_2 rest = some r → Ev (fun n => L_spec_l1Printed_0_2 n x1 (k : Int)) r := by
  intro rest
  induction rest with
  | nil =>
    intro k r hr h
    have hk := drop_nil hr
    rw [P_spec_l1Printed_0_2] at h
    refine Ev.step ?_ (fun n => L_spec_l1Printed_0_2_eq n x1 (k : Int))
    rw [show decide ((k : Int) < (x1.length : Int)) = false from decide_eq_false (by omega)]
    exact Ev.neg rfl (Ev.ofSome h)
  | cons e rest ih =>
    intro k r hr h
    obtain ⟨hk, hx, hr2⟩ := drop_cons (d := 0) hr
    have hw := wrap_succ hl hk
    have ih2 : ∀ (r : Bool), P_spec_l1Printed_0_2 rest = some r → Ev (fun n => L_spec_l1Printed_0_2 n x1 (IntKind.wrap .i64 ((k : Int) + 1))) r := by
      intro r h; rw [hw]; exact ih (k + 1) r hr2 h
    rw [P_spec_l1Printed_0_2] at h
    refine Ev.step ?_ (fun n => L_spec_l1Printed_0_2_eq n x1 (k : Int))
    rw [show decide ((k : Int) < (x1.length : Int)) = true from decide_eq_true (by omega), inB_nat2 hk, hx]
    exact Ev.pos rfl (Ev.pos rfl (Ev.ofBif h (fun h => (Ev.ofSome h)) (fun h => (Ev.pos rfl (Ev.ofBif h (fun h => (Ev.ofSome h)) (fun h => (ih2  _ h)))))))
theorem S_spec_l1Printed (a0 : (List Int)) {r : Bool} (h : P_spec_l1Printed a0 = some r) : Ev (fun n => F_spec_l1Printed n a0) r := by
  rw [P_spec_l1Printed] at h
  refine Ev.of_eq ?_ (fun n => F_spec_l1Printed_eq n a0)
  exact (Ev.ofLen h fun hl h => S_spec_l1Printed_0_2 hl _ (0 : Nat) _ rfl h)
theorem hcs_spec_l1Printed : ∀ x ∈ cs_spec_l1Printed, CtrOk Try.prog x := conOf_nil
theorem ok_spec_l1Printed : CtrOk Try.prog c_spec_l1Printed := by
  refine ctr_of_run (c := c_spec_l1Printed) (by kernel_rfl : Try.prog.funcs[132]? = some Try.f132) (code := Try.f132.body.getD .skip) (by kernel_rfl) (by kernel_rfl) (by kernel_rfl) (A := A_spec_l1Printed) (I := In_spec_l1Printed) hcs_spec_l1Printed ?_
  rintro ⟨a0, u⟩ y hy
  exact (S_spec_l1Printed a0 hy).get

/-! ## spec.l1Digit (135) -/
def T_spec_l1Digit (a0 : Int) : Bool :=
  bif decide ((48 : Int) ≤ a0) then
    decide (a0 ≤ 57)
  else
    false
noncomputable def c_spec_l1Digit : Ctr := ⟨135, [U8], [.bool], fun x => some (T_spec_l1Digit x.1)⟩
def A_spec_l1Digit : List (List Nat × Ann) := []
def In_spec_l1Digit : List (List Nat × Nat) := []
noncomputable def cs_spec_l1Digit : List Ctr := []
noncomputable def F_spec_l1Digit (n : Nat) (a0 : Int) : Option Bool := run Try.prog A_spec_l1Digit In_spec_l1Digit (conOf cs_spec_l1Digit) Try.f135 (Try.f135.body.getD .skip) (packT [.bool]) n (argsV [U8] (a0, ()))
theorem F_spec_l1Digit_eq (n : Nat) (a0 : Int) : F_spec_l1Digit n a0 =
    bif decide ((48 : Int) ≤ a0) then
      some (decide (a0 ≤ 57))
    else
      some false := by kernel_rfl
theorem S_spec_l1Digit (n : Nat) (a0 : Int) : F_spec_l1Digit n a0 = some (T_spec_l1Digit a0) := (F_spec_l1Digit_eq n a0).trans (cond_some rfl rfl)
theorem hcs_spec_l1Digit : ∀ x ∈ cs_spec_l1Digit, CtrOk Try.prog x := conOf_nil
theorem ok_spec_l1Digit : CtrOk Try.prog c_spec_l1Digit := by
  refine ctr_of_run (c := c_spec_l1Digit) (by kernel_rfl : Try.prog.funcs[135]? = some Try.f135) (code := Try.f135.body.getD .skip) (by kernel_rfl) (by kernel_rfl) (by kernel_rfl) (A := A_spec_l1Digit) (I := In_spec_l1Digit) hcs_spec_l1Digit ?_
  rintro ⟨a0, u⟩ y hy
  exact ⟨0, (S_spec_l1Digit 0 a0).trans hy⟩

/-! ## spec.l1Letter (136) -/
def T_spec_l1Letter (a0 : Int) : Bool :=
  bif decide ((97 : Int) ≤ a0) then
    bif decide (a0 ≤ 122) then
      true
    else
      bif decide ((65 : Int) ≤ a0) then
        decide (a0 ≤ 90)
      else
        false
  else
    bif decide ((65 : Int) ≤ a0) then
      decide (a0 ≤ 90)
    else
      false
noncomputable def c_spec_l1Letter : Ctr := ⟨136, [U8], [.bool], fun x => some (T_spec_l1Letter x.1)⟩
def A_spec_l1Letter : List (List Nat × Ann) := []
def In_spec_l1Letter : List (List Nat × Nat) := []
noncomputable def cs_spec_l1Letter : List Ctr := []
noncomputable def F_spec_l1Letter (n : Nat) (a0 : Int) : Option Bool := run Try.prog A_spec_l1Letter In_spec_l1Letter (conOf cs_spec_l1Letter) Try.f136 (Try.f136.body.getD .skip) (packT [.bool]) n (argsV [U8] (a0, ()))
theorem F_spec_l1Letter_eq (n : Nat) (a0 : Int) : F_spec_l1Letter n a0 =
    bif decide ((97 : Int) ≤ a0) then
      bif decide (a0 ≤ 122) then
        some true
      else
        bif decide ((65 : Int) ≤ a0) then
          some (decide (a0 ≤ 90))
        else
          some false
    else
      bif decide ((65 : Int) ≤ a0) then
        some (decide (a0 ≤ 90))
      else
        some false := by kernel_rfl
theorem S_spec_l1Letter (n : Nat) (a0 : Int) : F_spec_l1Letter n a0 = some (T_spec_l1Letter a0) := (F_spec_l1Letter_eq n a0).trans (cond_some (cond_some rfl (cond_some rfl rfl)) (cond_some rfl rfl))
theorem hcs_spec_l1Letter : ∀ x ∈ cs_spec_l1Letter, CtrOk Try.prog x := conOf_nil
theorem ok_spec_l1Letter : CtrOk Try.prog c_spec_l1Letter := by
  refine ctr_of_run (c := c_spec_l1Letter) (by kernel_rfl : Try.prog.funcs[136]? = some Try.f136) (code := Try.f136.body.getD .skip) (by kernel_rfl) (by kernel_rfl) (by kernel_rfl) (A := A_spec_l1Letter) (I := In_spec_l1Letter) hcs_spec_l1Letter ?_
  rintro ⟨a0, u⟩ y hy
  exact ⟨0, (S_spec_l1Letter 0 a0).trans hy⟩

/-! ## spec.GoodName (82) -/
noncomputable def P_spec_GoodName_0_4 : List Int → Option Bool
  | [] =>
      some true
  | e :: rest =>
      bif !(T_spec_l1Letter (e)) then
        bif !(T_spec_l1Digit (e)) then
          bif !decide (e = 95) then
            some false
          else
            P_spec_GoodName_0_4 rest
        else
          P_spec_GoodName_0_4 rest
      else
        P_spec_GoodName_0_4 rest
noncomputable def P_spec_GoodName (a0 : (List Int)) : Option Bool :=
  bif decide ((a0.length : Int) < 1) then
    some false
  else
    bif decide ((30 : Int) < (a0.length : Int)) then
      some false
    else
      bif inB 0 a0.length then
        bif T_spec_l1Digit (rd a0 0 0) then
          some false
        else
          lenOk a0 (P_spec_GoodName_0_4 a0)
      else none
noncomputable def c_spec_GoodName : Ctr := ⟨82, [.str], [.bool], fun x => P_spec_GoodName x.1⟩
def A_spec_GoodName : List (List Nat × Ann) := [([0, 4], [.keep 0 0, .keep 0 3])]
def In_spec_GoodName : List (List Nat × Nat) := []
noncomputable def cs_spec_GoodName : List Ctr := [c_spec_l1Digit, c_spec_l1Letter]
noncomputable def F_spec_GoodName (n : Nat) (a0 : (List Int)) : Option Bool := run Try.prog A_spec_GoodName In_spec_GoodName (conOf cs_spec_GoodName) Try.f82 (Try.f82.body.getD .skip) (packT [.bool]) n (argsV [.str] (a0, ()))
noncomputable abbrev L_spec_GoodName_0_4 (n : Nat) (x1 : (List Int)) (x2 : Int) : Option Bool := lam Try.prog A_spec_GoodName In_spec_GoodName (conOf cs_spec_GoodName) Try.f82 (Try.f82.body.getD .skip) (packT [.bool]) n [0, 4] [.d .str x1, .d I64 x2]
theorem F_spec_GoodName_eq (n : Nat) (a0 : (List Int)) : F_spec_GoodName n a0 =
    bif decide ((a0.length : Int) < 1) then
      some false
    else
      bif decide ((30 : Int) < (a0.length : Int)) then
        some false
      else
        bif inB 0 a0.length then
          bif T_spec_l1Digit (rd a0 0 0) then
            some false
          else
            L_spec_GoodName_0_4 n a0 0
        else none := by kernel_rfl
theorem L_spec_GoodName_0_4_eq (n : Nat) (x1 : (List Int)) (x2 : Int) : L_spec_GoodName_0_4 (n + 1) x1 x2 =
    bif decide (x2 < (x1.length : Int)) then
      bif inB x2 x1.length then
        bif !(T_spec_l1Letter (rd x1 x2 0)) then
          bif inB x2 x1.length then
            bif !(T_spec_l1Digit (rd x1 x2 0)) then
              bif inB x2 x1.length then
                bif !decide (rd x1 x2 0 = 95) then
                  some false
                else
                  L_spec_GoodName_0_4 n x1 (IntKind.wrap .i64 (x2 + 1))
              else none
            else
              L_spec_GoodName_0_4 n x1 (IntKind.wrap .i64 (x2 + 1))
          else none
        else
          L_spec_GoodName_0_4 n x1 (IntKind.wrap .i64 (x2 + 1))
      else none
    else
      some true := by kernel_rfl
theorem S_spec_GoodName_0_4 {x1 : (List Int)} (hl : x1.length ≤ maxLen) : ∀ (rest : List Int) (k : Nat) (r : Bool), rest = x1.drop k → P_spec_GoodName_0_4 rest = some r → Ev (fun n => L_spec_GoodName_0_4 n x1 (k : Int)) r := by
  intro rest
  induction rest with
  | nil =>
    intro k r hr h
    have hk := drop_nil hr
    rw [P_spec_GoodName_0_4] at h
    refine Ev.step ?_ (fun n => L_spec_GoodName_0_4_eq n x1 (k : Int))
    rw [show decide ((k : Int) < (x1.length : Int)) = false from decide_eq_false (by omega)]
    exact Ev.neg rfl (Ev.ofSome h)
  | cons e rest ih =>
    intro k r hr h
    obtain ⟨hk, hx, hr2⟩ := drop_cons (d := 0) hr
    have hw := wrap_succ hl hk
    have ih2 : ∀ (r : Bool), P_spec_GoodName_0_4 rest = some r → Ev (fun n => L_spec_GoodName_0_4 n x1 (IntKind.wrap .i64 ((k : Int) + 1))) r := by
      intro r h; rw [hw]; exact ih (k + 1) r hr2 h
    rw [P_spec_GoodName_0_4] at h
    refine Ev.step ?_ (fun n => L_spec_GoodName_0_4_eq n x1 (k : Int))
    rw [show decide ((k : Int) < (x1.length : Int)) = true from decide_eq_true (by omega), inB_nat2 hk, hx]
    exact Ev.pos rfl (Ev.pos rfl (Ev.ofBif h (fun h => (Ev.pos rfl (Ev.ofBif h (fun h => (Ev.pos rfl (Ev.ofBif h (fun h => (Ev.ofSome h)) (fun h => (ih2  _ h))))) (fun h => (ih2  _ h))))) (fun h => (ih2  _ h))))
theorem S_spec_GoodName (a0 : (List Int)) {r : Bool} (h : P_spec_GoodName a0 = some r) : Ev (fun n => F_spec_GoodName n a0) r := by
  rw [P_spec_GoodName] at h
  refine Ev.of_eq ?_ (fun n => F_spec_GoodName_eq n a0)
  exact (Ev.ofBif h (fun h => (Ev.ofSome h)) (fun h => (Ev.ofBif h (fun h => (Ev.ofSome h)) (fun h => (Ev.ofBif h (fun h => (Ev.ofBif h (fun h => (Ev.ofSome h)) (fun h => (Ev.ofLen h fun hl h => S_spec_GoodName_0_4 hl _ (0 : Nat) _ rfl h)))) (fun h => (Ev.ofNone h)))))))
theorem hcs_spec_GoodName : ∀ x ∈ cs_spec_GoodName, CtrOk Try.prog x := (conOf_cons ok_spec_l1Digit (conOf_cons ok_spec_l1Letter conOf_nil))
theorem ok_spec_GoodName : CtrOk Try.prog c_spec_GoodName := by
  refine ctr_of_run (c := c_spec_GoodName) (by kernel_rfl : Try.prog.funcs[82]? = some Try.f82) (code := Try.f82.body.getD .skip) (by kernel_rfl) (by kernel_rfl) (by kernel_rfl) (A := A_spec_GoodName) (I := In_spec_GoodName) hcs_spec_GoodName ?_
  rintro ⟨a0, u⟩ y hy
  exact (S_spec_GoodName a0 hy).get

/-! ## spec.l1Pow2 (133) -/
noncomputable def P_spec_l1Pow2_0_3 (x1 : Int) : Nat → Int → Int → Option Int
  | 0, _, _ => none
  | m + 1, x2, x3 =>
      bif decide (x3 < x1) then
        P_spec_l1Pow2_0_3 x1 m (IntKind.wrap .i64 (x2 * 2)) (IntKind.wrap .i64 (x3 + 1))
      else
        some x2
noncomputable def P_spec_l1Pow2 (m : Nat) (a0 : Int) : Option Int :=
  P_spec_l1Pow2_0_3 a0 m 1 0
noncomputable def E_spec_l1Pow2 (a0 : Int) : Option Int := evOpt fun m => P_spec_l1Pow2 m a0
noncomputable def c_spec_l1Pow2 : Ctr := ⟨133, [I64], [I64], fun x => E_spec_l1Pow2 x.1⟩
def A_spec_l1Pow2 : List (List Nat × Ann) := [([0, 3], [.keep 0 0, .keep 0 3, .keep 0 4])]
def In_spec_l1Pow2 : List (List Nat × Nat) := []
noncomputable def cs_spec_l1Pow2 : List Ctr := []
noncomputable def F_spec_l1Pow2 (n : Nat) (a0 : Int) : Option Int := run Try.prog A_spec_l1Pow2 In_spec_l1Pow2 (conOf cs_spec_l1Pow2) Try.f133 (Try.f133.body.getD .skip) (packT [I64]) n (argsV [I64] (a0, ()))
noncomputable abbrev L_spec_l1Pow2_0_3 (n : Nat) (x1 : Int) (x2 : Int) (x3 : Int) : Option Int := lam Try.prog A_spec_l1Pow2 In_spec_l1Pow2 (conOf cs_spec_l1Pow2) Try.f133 (Try.f133.body.getD .skip) (packT [I64]) n [0, 3] [.d I64 x1, .d I64 x2, .d I64 x3]
theorem F_spec_l1Pow2_eq (n : Nat) (a0 : Int) : F_spec_l1Pow2 n a0 =
    L_spec_l1Pow2_0_3 n a0 1 0 := by kernel_rfl
theorem L_spec_l1Pow2_0_3_eq (n : Nat) (x1 : Int) (x2 : Int) (x3 : Int) : L_spec_l1Pow2_0_3 (n + 1) x1 x2 x3 =
    bif decide (x3 < x1) then
      L_spec_l1Pow2_0_3 n x1 (IntKind.wrap .i64 (x2 * 2)) (IntKind.wrap .i64 (x3 + 1))
    else
      some x2 := by kernel_rfl
theorem S_spec_l1Pow2_0_3 {x1 : Int} : ∀ (m : Nat) (x2 : Int) (x3 : Int) (r : Int), P_spec_l1Pow2_0_3 x1 m x2 x3 = some r → Ev (fun n => L_spec_l1Pow2_0_3 n x1 x2 x3) r := by
  intro m
  induction m with
  | zero => intro x2 x3 r h; rw [P_spec_l1Pow2_0_3] at h; exact Ev.ofNone h
  | succ m ih2 =>
    intro x2 x3 r h
    rw [P_spec_l1Pow2_0_3] at h
    refine Ev.step ?_ (fun n => L_spec_l1Pow2_0_3_eq n x1 x2 x3)
    exact (Ev.ofBif h (fun h => (ih2 _ _ _ h)) (fun h => (Ev.ofSome h)))
theorem S_spec_l1Pow2 {m : Nat} (a0 : Int) {r : Int} (h : P_spec_l1Pow2 m a0 = some r) : Ev (fun n => F_spec_l1Pow2 n a0) r := by
  rw [P_spec_l1Pow2] at h
  refine Ev.of_eq ?_ (fun n => F_spec_l1Pow2_eq n a0)
  exact (S_spec_l1Pow2_0_3 _ _ _ _ h)
theorem hcs_spec_l1Pow2 : ∀ x ∈ cs_spec_l1Pow2, CtrOk Try.prog x := conOf_nil
theorem ok_spec_l1Pow2 : CtrOk Try.prog c_spec_l1Pow2 := by
  refine ctr_of_run (c := c_spec_l1Pow2) (by kernel_rfl : Try.prog.funcs[133]? = some Try.f133) (code := Try.f133.body.getD .skip) (by kernel_rfl) (by kernel_rfl) (by kernel_rfl) (A := A_spec_l1Pow2) (I := In_spec_l1Pow2) hcs_spec_l1Pow2 ?_
  rintro ⟨a0, u⟩ y hy
  exact let ⟨_, h⟩ := (evOpt_get hy).get; (S_spec_l1Pow2 a0 h).get

/-! ## spec.l1Block (134) -/
noncomputable def P_spec_l1Block (a0 : DAtom) : Option (Int × Int) :=
  Option.bind (E_spec_l1Pow2 (IntKind.wrap .i64 (32 - (Int.tmod a0.2.1 64)))) fun (y1 : Int) =>
  some (IntKind.wrap .i64 (Int.tdiv a0.2.1 64), y1)
noncomputable def c_spec_l1Block : Ctr := ⟨134, [TyAtom], [I64, I64], fun x => P_spec_l1Block x.1⟩
def A_spec_l1Block : List (List Nat × Ann) := []
def In_spec_l1Block : List (List Nat × Nat) := []
noncomputable def cs_spec_l1Block : List Ctr := [c_spec_l1Pow2]
noncomputable def F_spec_l1Block (n : Nat) (a0 : DAtom) : Option (Int × Int) := run Try.prog A_spec_l1Block In_spec_l1Block (conOf cs_spec_l1Block) Try.f134 (Try.f134.body.getD .skip) (packT [I64, I64]) n (argsV [TyAtom] (a0, ()))
theorem F_spec_l1Block_eq (n : Nat) (a0 : DAtom) : F_spec_l1Block n a0 =
    Option.bind (E_spec_l1Pow2 (IntKind.wrap .i64 (32 - (Int.tmod a0.2.1 64)))) fun (y1 : Int) =>
    some (IntKind.wrap .i64 (Int.tdiv a0.2.1 64), y1) := by kernel_rfl
theorem S_spec_l1Block (a0 : DAtom) {r : (Int × Int)} (h : P_spec_l1Block a0 = some r) : Ev (fun n => F_spec_l1Block n a0) r := by
  rw [P_spec_l1Block] at h
  refine Ev.of_eq ?_ (fun n => F_spec_l1Block_eq n a0)
  exact (Ev.ofBind h fun y1 h => (Ev.ofSome h))
theorem hcs_spec_l1Block : ∀ x ∈ cs_spec_l1Block, CtrOk Try.prog x := (conOf_cons ok_spec_l1Pow2 conOf_nil)
theorem ok_spec_l1Block : CtrOk Try.prog c_spec_l1Block := by
  refine ctr_of_run (c := c_spec_l1Block) (by kernel_rfl : Try.prog.funcs[134]? = some Try.f134) (code := Try.f134.body.getD .skip) (by kernel_rfl) (by kernel_rfl) (by kernel_rfl) (A := A_spec_l1Block) (I := In_spec_l1Block) hcs_spec_l1Block ?_
  rintro ⟨a0, u⟩ y hy
  exact (S_spec_l1Block a0 hy).get

/-! ## spec.GoodAtom (81) -/
noncomputable def P_spec_GoodAtom_1_8 (x1 : Int) (x2 : Bool) (x3 : DAtom) : Option Bool :=
  bif x2 then
    some true
  else
    bif decide (x1 = 3) then
      bif decide (x3.2.1 = 0) then
        bif decide ((x3.2.2.1.length : Int) ≤ 200) then
          Option.bind (P_spec_l1Printed x3.2.2.1) fun (y1 : Bool) =>
          some y1
        else
          some false
      else
        some false
    else
      bif decide (x1 = 4) then
        bif decide (x3.2.1 = 0) then
          Option.bind (P_spec_GoodName x3.2.2.2) fun (y2 : Bool) =>
          bif y2 then
            bif decide ((1 : Int) ≤ (x3.2.2.1.length : Int)) then
              bif decide ((x3.2.2.1.length : Int) ≤ 200) then
                Option.bind (P_spec_l1Printed x3.2.2.1) fun (y3 : Bool) =>
                some y3
              else
                some false
            else
              some false
          else
            some false
        else
          some false
      else
        bif decide (x1 = 6) then
          bif decide (x3.2.1 < 0) then
            some false
          else
            Option.bind (E_spec_l1Pow2 32) fun (y4 : Int) =>
            bif decide (IntKind.wrap .i64 (y4 - 1) < IntKind.wrap .i64 (Int.tdiv x3.2.1 64)) then
              some false
            else
              bif decide ((32 : Int) < Int.tmod x3.2.1 64) then
                some false
              else
                Option.bind (P_spec_l1Block x3) fun (y5 : (Int × Int)) =>
                bif decide (y5.2 = 0) then none else
                some (decide (Int.tmod y5.1 y5.2 = 0))
        else
          bif decide (x1 = 7) then
            bif decide (((-100000000000) : Int) ≤ x3.2.1) then
              some (decide (x3.2.1 ≤ 100000000000))
            else
              some false
          else
            some false
noncomputable def P_spec_GoodAtom_1_3 (x1 : DAtom) : Option Bool :=
  bif decide (x1.1 = 1) then
    bif decide (x1.2.1 = 0) then
      some true
    else
      some (decide (x1.2.1 = 1))
  else
    bif decide (x1.1 = 2) then
      P_spec_GoodAtom_1_8 x1.1 (decide (x1.1 = 2)) x1
    else
      P_spec_GoodAtom_1_8 x1.1 (decide (x1.1 = 5)) x1
noncomputable def P_spec_GoodAtom (a0 : DAtom) : Option Bool :=
  bif !decide (a0.1 = 3) then
    bif !decide (a0.1 = 4) then
      bif !decide (a0.2.2.1 = ([] : List Int)) then
        some false
      else
        bif !decide (a0.1 = 4) then
          bif !decide (a0.2.2.2 = ([] : List Int)) then
            some false
          else
            P_spec_GoodAtom_1_3 a0
        else
          P_spec_GoodAtom_1_3 a0
    else
      bif !decide (a0.1 = 4) then
        bif !decide (a0.2.2.2 = ([] : List Int)) then
          some false
        else
          P_spec_GoodAtom_1_3 a0
      else
        P_spec_GoodAtom_1_3 a0
  else
    bif !decide (a0.1 = 4) then
      bif !decide (a0.2.2.2 = ([] : List Int)) then
        some false
      else
        P_spec_GoodAtom_1_3 a0
    else
      P_spec_GoodAtom_1_3 a0
noncomputable def c_spec_GoodAtom : Ctr := ⟨81, [TyAtom], [.bool], fun x => P_spec_GoodAtom x.1⟩
def A_spec_GoodAtom : List (List Nat × Ann) := [([1, 3], [.keep 0 1, .boxd 0 1 TyAtom]), ([1, 8], [.keep 0 1, .keep 0 29, .keep 0 40, .boxd 0 1 TyAtom])]
def In_spec_GoodAtom : List (List Nat × Nat) := []
noncomputable def cs_spec_GoodAtom : List Ctr := [c_spec_l1Printed, c_spec_GoodName, c_spec_l1Pow2, c_spec_l1Block]
noncomputable def F_spec_GoodAtom (n : Nat) (a0 : DAtom) : Option Bool := run Try.prog A_spec_GoodAtom In_spec_GoodAtom (conOf cs_spec_GoodAtom) Try.f81 (Try.f81.body.getD .skip) (packT [.bool]) n (argsV [TyAtom] (a0, ()))
noncomputable abbrev L_spec_GoodAtom_1_3 (n : Nat) (x1 : DAtom) : Option Bool := lam Try.prog A_spec_GoodAtom In_spec_GoodAtom (conOf cs_spec_GoodAtom) Try.f81 (Try.f81.body.getD .skip) (packT [.bool]) n [1, 3] [.ptr 0 1 0, .agg (explode TyAtom x1)]
noncomputable abbrev L_spec_GoodAtom_1_8 (n : Nat) (x1 : Int) (x2 : Bool) (x3 : DAtom) : Option Bool := lam Try.prog A_spec_GoodAtom In_spec_GoodAtom (conOf cs_spec_GoodAtom) Try.f81 (Try.f81.body.getD .skip) (packT [.bool]) n [1, 8] [.ptr 0 1 0, .d I64 x1, .d .bool x2, .agg (explode TyAtom x3)]
theorem F_spec_GoodAtom_eq (n : Nat) (a0 : DAtom) : F_spec_GoodAtom n a0 =
    bif !decide (a0.1 = 3) then
      bif !decide (a0.1 = 4) then
        bif !decide (a0.2.2.1 = ([] : List Int)) then
          some false
        else
          bif !decide (a0.1 = 4) then
            bif !decide (a0.2.2.2 = ([] : List Int)) then
              some false
            else
              L_spec_GoodAtom_1_3 n a0
          else
            L_spec_GoodAtom_1_3 n a0
      else
        bif !decide (a0.1 = 4) then
          bif !decide (a0.2.2.2 = ([] : List Int)) then
            some false
          else
            L_spec_GoodAtom_1_3 n a0
        else
          L_spec_GoodAtom_1_3 n a0
    else
      bif !decide (a0.1 = 4) then
        bif !decide (a0.2.2.2 = ([] : List Int)) then
          some false
        else
          L_spec_GoodAtom_1_3 n a0
      else
        L_spec_GoodAtom_1_3 n a0 := by kernel_rfl
theorem L_spec_GoodAtom_1_3_eq (n : Nat) (x1 : DAtom) : L_spec_GoodAtom_1_3 (n + 1) x1 =
    bif decide (x1.1 = 1) then
      bif decide (x1.2.1 = 0) then
        some true
      else
        some (decide (x1.2.1 = 1))
    else
      bif decide (x1.1 = 2) then
        L_spec_GoodAtom_1_8 n x1.1 (decide (x1.1 = 2)) x1
      else
        L_spec_GoodAtom_1_8 n x1.1 (decide (x1.1 = 5)) x1 := by kernel_rfl
theorem L_spec_GoodAtom_1_8_eq (n : Nat) (x1 : Int) (x2 : Bool) (x3 : DAtom) : L_spec_GoodAtom_1_8 (n + 1) x1 x2 x3 =
    bif x2 then
      some true
    else
      bif decide (x1 = 3) then
        bif decide (x3.2.1 = 0) then
          bif decide ((x3.2.2.1.length : Int) ≤ 200) then
            Option.bind (P_spec_l1Printed x3.2.2.1) fun (y1 : Bool) =>
            some y1
          else
            some false
        else
          some false
      else
        bif decide (x1 = 4) then
          bif decide (x3.2.1 = 0) then
            Option.bind (P_spec_GoodName x3.2.2.2) fun (y2 : Bool) =>
            bif y2 then
              bif decide ((1 : Int) ≤ (x3.2.2.1.length : Int)) then
                bif decide ((x3.2.2.1.length : Int) ≤ 200) then
                  Option.bind (P_spec_l1Printed x3.2.2.1) fun (y3 : Bool) =>
                  some y3
                else
                  some false
              else
                some false
            else
              some false
          else
            some false
        else
          bif decide (x1 = 6) then
            bif decide (x3.2.1 < 0) then
              some false
            else
              Option.bind (E_spec_l1Pow2 32) fun (y4 : Int) =>
              bif decide (IntKind.wrap .i64 (y4 - 1) < IntKind.wrap .i64 (Int.tdiv x3.2.1 64)) then
                some false
              else
                bif decide ((32 : Int) < Int.tmod x3.2.1 64) then
                  some false
                else
                  Option.bind (P_spec_l1Block x3) fun (y5 : (Int × Int)) =>
                  bif decide (y5.2 = 0) then none else
                  some (decide (Int.tmod y5.1 y5.2 = 0))
          else
            bif decide (x1 = 7) then
              bif decide (((-100000000000) : Int) ≤ x3.2.1) then
                some (decide (x3.2.1 ≤ 100000000000))
              else
                some false
            else
              some false := by kernel_rfl
theorem S_spec_GoodAtom_1_8 {x1 : Int} {x2 : Bool} {x3 : DAtom} {r : Bool} (h : P_spec_GoodAtom_1_8 x1 x2 x3 = some r) : Ev (fun n => L_spec_GoodAtom_1_8 n x1 x2 x3) r := by
  rw [P_spec_GoodAtom_1_8] at h
  refine Ev.step ?_ (fun n => L_spec_GoodAtom_1_8_eq n x1 x2 x3)
  exact (Ev.ofBif h (fun h => (Ev.ofSome h)) (fun h => (Ev.ofBif h (fun h => (Ev.ofBif h (fun h => (Ev.ofBif h (fun h => (Ev.ofBind h fun y1 h => (Ev.ofSome h))) (fun h => (Ev.ofSome h)))) (fun h => (Ev.ofSome h)))) (fun h => (Ev.ofBif h (fun h => (Ev.ofBif h (fun h => (Ev.ofBind h fun y2 h => (Ev.ofBif h (fun h => (Ev.ofBif h (fun h => (Ev.ofBif h (fun h => (Ev.ofBind h fun y3 h => (Ev.ofSome h))) (fun h => (Ev.ofSome h)))) (fun h => (Ev.ofSome h)))) (fun h => (Ev.ofSome h))))) (fun h => (Ev.ofSome h)))) (fun h => (Ev.ofBif h (fun h => (Ev.ofBif h (fun h => (Ev.ofSome h)) (fun h => (Ev.ofBind h fun y4 h => (Ev.ofBif h (fun h => (Ev.ofSome h)) (fun h => (Ev.ofBif h (fun h => (Ev.ofSome h)) (fun h => (Ev.ofBind h fun y5 h => (Ev.ofBif h (fun h => (Ev.ofNone h)) (fun h => (Ev.ofSome h)))))))))))) (fun h => (Ev.ofBif h (fun h => (Ev.ofBif h (fun h => (Ev.ofSome h)) (fun h => (Ev.ofSome h)))) (fun h => (Ev.ofSome h)))))))))))
theorem S_spec_GoodAtom_1_3 {x1 : DAtom} {r : Bool} (h : P_spec_GoodAtom_1_3 x1 = some r) : Ev (fun n => L_spec_GoodAtom_1_3 n x1) r := by
  rw [P_spec_GoodAtom_1_3] at h
  refine Ev.step ?_ (fun n => L_spec_GoodAtom_1_3_eq n x1)
  exact (Ev.ofBif h (fun h => (Ev.ofBif h (fun h => (Ev.ofSome h)) (fun h => (Ev.ofSome h)))) (fun h => (Ev.ofBif h (fun h => (S_spec_GoodAtom_1_8 h)) (fun h => (S_spec_GoodAtom_1_8 h)))))
theorem S_spec_GoodAtom (a0 : DAtom) {r : Bool} (h : P_spec_GoodAtom a0 = some r) : Ev (fun n => F_spec_GoodAtom n a0) r := by
  rw [P_spec_GoodAtom] at h
  refine Ev.of_eq ?_ (fun n => F_spec_GoodAtom_eq n a0)
  exact (Ev.ofBif h (fun h => (Ev.ofBif h (fun h => (Ev.ofBif h (fun h => (Ev.ofSome h)) (fun h => (Ev.ofBif h (fun h => (Ev.ofBif h (fun h => (Ev.ofSome h)) (fun h => (S_spec_GoodAtom_1_3 h)))) (fun h => (S_spec_GoodAtom_1_3 h)))))) (fun h => (Ev.ofBif h (fun h => (Ev.ofBif h (fun h => (Ev.ofSome h)) (fun h => (S_spec_GoodAtom_1_3 h)))) (fun h => (S_spec_GoodAtom_1_3 h)))))) (fun h => (Ev.ofBif h (fun h => (Ev.ofBif h (fun h => (Ev.ofSome h)) (fun h => (S_spec_GoodAtom_1_3 h)))) (fun h => (S_spec_GoodAtom_1_3 h)))))
theorem hcs_spec_GoodAtom : ∀ x ∈ cs_spec_GoodAtom, CtrOk Try.prog x := (conOf_cons ok_spec_l1Printed (conOf_cons ok_spec_GoodName (conOf_cons ok_spec_l1Pow2 (conOf_cons ok_spec_l1Block conOf_nil))))
theorem ok_spec_GoodAtom : CtrOk Try.prog c_spec_GoodAtom := by
  refine ctr_of_run (c := c_spec_GoodAtom) (by kernel_rfl : Try.prog.funcs[81]? = some Try.f81) (code := Try.f81.body.getD .skip) (by kernel_rfl) (by kernel_rfl) (by kernel_rfl) (A := A_spec_GoodAtom) (I := In_spec_GoodAtom) hcs_spec_GoodAtom ?_
  rintro ⟨a0, u⟩ y hy
  exact (S_spec_GoodAtom a0 hy).get

/-! ## spec.l11Ref (32) -/
noncomputable def P_spec_l11Ref (a0 : DAtom) : Option Bool :=
  bif decide (a0.1 = 4) then
    Option.bind (P_spec_GoodAtom a0) fun (y1 : Bool) =>
    some y1
  else
    some false
noncomputable def c_spec_l11Ref : Ctr := ⟨32, [TyAtom], [.bool], fun x => P_spec_l11Ref x.1⟩
def A_spec_l11Ref : List (List Nat × Ann) := []
def In_spec_l11Ref : List (List Nat × Nat) := []
noncomputable def cs_spec_l11Ref : List Ctr := [c_spec_GoodAtom]
noncomputable def F_spec_l11Ref (n : Nat) (a0 : DAtom) : Option Bool := run Try.prog A_spec_l11Ref In_spec_l11Ref (conOf cs_spec_l11Ref) Try.f32 (Try.f32.body.getD .skip) (packT [.bool]) n (argsV [TyAtom] (a0, ()))
theorem F_spec_l11Ref_eq (n : Nat) (a0 : DAtom) : F_spec_l11Ref n a0 =
    bif decide (a0.1 = 4) then
      Option.bind (P_spec_GoodAtom a0) fun (y1 : Bool) =>
      some y1
    else
      some false := by kernel_rfl
theorem S_spec_l11Ref (a0 : DAtom) {r : Bool} (h : P_spec_l11Ref a0 = some r) : Ev (fun n => F_spec_l11Ref n a0) r := by
  rw [P_spec_l11Ref] at h
  refine Ev.of_eq ?_ (fun n => F_spec_l11Ref_eq n a0)
  exact (Ev.ofBif h (fun h => (Ev.ofBind h fun y1 h => (Ev.ofSome h))) (fun h => (Ev.ofSome h)))
theorem hcs_spec_l11Ref : ∀ x ∈ cs_spec_l11Ref, CtrOk Try.prog x := (conOf_cons ok_spec_GoodAtom conOf_nil)
theorem ok_spec_l11Ref : CtrOk Try.prog c_spec_l11Ref := by
  refine ctr_of_run (c := c_spec_l11Ref) (by kernel_rfl : Try.prog.funcs[32]? = some Try.f32) (code := Try.f32.body.getD .skip) (by kernel_rfl) (by kernel_rfl) (by kernel_rfl) (A := A_spec_l11Ref) (I := In_spec_l11Ref) hcs_spec_l11Ref ?_
  rintro ⟨a0, u⟩ y hy
  exact (S_spec_l11Ref a0 hy).get

/-! ## spec.l1CmpNum (130) -/
def T_spec_l1CmpNum (a0 : Int) (a1 : Int) : Int :=
  bif decide (a0 < a1) then
    (-1)
  else
    bif decide (a1 < a0) then
      1
    else
      0
noncomputable def c_spec_l1CmpNum : Ctr := ⟨130, [I64, I64], [I64], fun x => some (T_spec_l1CmpNum x.1 x.2.1)⟩
def A_spec_l1CmpNum : List (List Nat × Ann) := []
def In_spec_l1CmpNum : List (List Nat × Nat) := []
noncomputable def cs_spec_l1CmpNum : List Ctr := []
noncomputable def F_spec_l1CmpNum (n : Nat) (a0 : Int) (a1 : Int) : Option Int := run Try.prog A_spec_l1CmpNum In_spec_l1CmpNum (conOf cs_spec_l1CmpNum) Try.f130 (Try.f130.body.getD .skip) (packT [I64]) n (argsV [I64, I64] (a0, a1, ()))
theorem F_spec_l1CmpNum_eq (n : Nat) (a0 : Int) (a1 : Int) : F_spec_l1CmpNum n a0 a1 =
    bif decide (a0 < a1) then
      some (-1)
    else
      bif decide (a1 < a0) then
        some 1
      else
        some 0 := by kernel_rfl
theorem S_spec_l1CmpNum (n : Nat) (a0 : Int) (a1 : Int) : F_spec_l1CmpNum n a0 a1 = some (T_spec_l1CmpNum a0 a1) := (F_spec_l1CmpNum_eq n a0 a1).trans (cond_some rfl (cond_some rfl rfl))
theorem hcs_spec_l1CmpNum : ∀ x ∈ cs_spec_l1CmpNum, CtrOk Try.prog x := conOf_nil
theorem ok_spec_l1CmpNum : CtrOk Try.prog c_spec_l1CmpNum := by
  refine ctr_of_run (c := c_spec_l1CmpNum) (by kernel_rfl : Try.prog.funcs[130]? = some Try.f130) (code := Try.f130.body.getD .skip) (by kernel_rfl) (by kernel_rfl) (by kernel_rfl) (A := A_spec_l1CmpNum) (I := In_spec_l1CmpNum) hcs_spec_l1CmpNum ?_
  rintro ⟨a0, a1, u⟩ y hy
  exact ⟨0, (S_spec_l1CmpNum 0 a0 a1).trans hy⟩

/-! ## spec.l1CmpText (102) -/
noncomputable def P_spec_l1CmpText_0_2 (x1 : (List Int)) (x2 : (List Int)) : List Int → Nat → Option Int
  | [], k =>
      some (T_spec_l1CmpNum (x1.length : Int) (x2.length : Int))
  | e :: rest, k =>
      bif decide ((k : Int) < (x2.length : Int)) then
        bif inB (k : Int) x2.length then
          bif !decide (e = rd x2 (k : Int) 0) then
            bif inB (k : Int) x2.length then
              some (T_spec_l1CmpNum (IntKind.wrap .i64 (e)) (IntKind.wrap .i64 (rd x2 (k : Int) 0)))
            else none
          else
            P_spec_l1CmpText_0_2 x1 x2 rest (k + 1)
        else none
      else
        some (T_spec_l1CmpNum (x1.length : Int) (x2.length : Int))
noncomputable def P_spec_l1CmpText (a0 : (List Int)) (a1 : (List Int)) : Option Int :=
  lenOk a0 (P_spec_l1CmpText_0_2 a0 a1 a0 0)
noncomputable def c_spec_l1CmpText : Ctr := ⟨102, [.str, .str], [I64], fun x => P_spec_l1CmpText x.1 x.2.1⟩
def A_spec_l1CmpText : List (List Nat × Ann) := [([0, 2], [.keep 0 0, .keep 0 1, .keep 0 5])]
def In_spec_l1CmpText : List (List Nat × Nat) := []
noncomputable def cs_spec_l1CmpText : List Ctr := [c_spec_l1CmpNum]
noncomputable def F_spec_l1CmpText (n : Nat) (a0 : (List Int)) (a1 : (List Int)) : Option Int := run Try.prog A_spec_l1CmpText In_spec_l1CmpText (conOf cs_spec_l1CmpText) Try.f102 (Try.f102.body.getD .skip) (packT [I64]) n (argsV [.str, .str] (a0, a1, ()))
noncomputable abbrev L_spec_l1CmpText_0_2 (n : Nat) (x1 : (List Int)) (x2 : (List Int)) (x3 : Int) : Option Int := lam Try.prog A_spec_l1CmpText In_spec_l1CmpText (conOf cs_spec_l1CmpText) Try.f102 (Try.f102.body.getD .skip) (packT [I64]) n [0, 2] [.d .str x1, .d .str x2, .d I64 x3]
theorem F_spec_l1CmpText_eq (n : Nat) (a0 : (List Int)) (a1 : (List Int)) : F_spec_l1CmpText n a0 a1 =
    L_spec_l1CmpText_0_2 n a0 a1 0 := by kernel_rfl
theorem L_spec_l1CmpText_0_2_eq (n : Nat) (x1 : (List Int)) (x2 : (List Int)) (x3 : Int) : L_spec_l1CmpText_0_2 (n + 1) x1 x2 x3 =
    bif decide (x3 < (x1.length : Int)) then
      bif decide (x3 < (x2.length : Int)) then
        bif inB x3 x1.length then
          bif inB x3 x2.length then
            bif !decide (rd x1 x3 0 = rd x2 x3 0) then
              bif inB x3 x1.length then
                bif inB x3 x2.length then
                  some (T_spec_l1CmpNum (IntKind.wrap .i64 (rd x1 x3 0)) (IntKind.wrap .i64 (rd x2 x3 0)))
                else none
              else none
            else
              L_spec_l1CmpText_0_2 n x1 x2 (IntKind.wrap .i64 (x3 + 1))
          else none
        else none
      else
        some (T_spec_l1CmpNum (x1.length : Int) (x2.length : Int))
    else
      some (T_spec_l1CmpNum (x1.length : Int) (x2.length : Int)) := by kernel_rfl
theorem S_spec_l1CmpText_0_2 {x1 : (List Int)} {x2 : (List Int)} (hl : x1.length ≤ maxLen) : ∀ (rest : List Int) (k : Nat) (r : Int), rest = x1.drop k → P_spec_l1CmpText_0_2 x1 x2 rest k = some r → Ev (fun n => L_spec_l1CmpText_0_2 n x1 x2 (k : Int)) r := by
  intro rest
  induction rest with
  | nil =>
    intro k r hr h
    have hk := drop_nil hr
    rw [P_spec_l1CmpText_0_2] at h
    refine Ev.step ?_ (fun n => L_spec_l1CmpText_0_2_eq n x1 x2 (k : Int))
    rw [show decide ((k : Int) < (x1.length : Int)) = false from decide_eq_false (by omega)]
    exact Ev.neg rfl (Ev.ofSome h)
  | cons e rest ih =>
    intro k r hr h
    obtain ⟨hk, hx, hr2⟩ := drop_cons (d := 0) hr
    have hw := wrap_succ hl hk
    have ih2 : ∀ (r : Int), P_spec_l1CmpText_0_2 x1 x2 rest (k + 1) = some r → Ev (fun n => L_spec_l1CmpText_0_2 n x1 x2 (IntKind.wrap .i64 ((k : Int) + 1))) r := by
      intro r h; rw [hw]; exact ih (k + 1) r hr2 h
    rw [P_spec_l1CmpText_0_2] at h
    refine Ev.step ?_ (fun n => L_spec_l1CmpText_0_2_eq n x1 x2 (k : Int))
    rw [show decide ((k : Int) < (x1.length : Int)) = true from decide_eq_true (by omega), inB_nat2 hk, hx]
    exact Ev.pos rfl (Ev.ofBif h (fun h => (Ev.pos rfl (Ev.ofBif h (fun h => (Ev.ofBif h (fun h => (Ev.pos rfl (Ev.ofBif h (fun h => (Ev.ofSome h)) (fun h => (Ev.ofNone h))))) (fun h => (ih2  _ h)))) (fun h => (Ev.ofNone h))))) (fun h => (Ev.ofSome h)))
theorem S_spec_l1CmpText (a0 : (List Int)) (a1 : (List Int)) {r : Int} (h : P_spec_l1CmpText a0 a1 = some r) : Ev (fun n => F_spec_l1CmpText n a0 a1) r := by
  rw [P_spec_l1CmpText] at h
  refine Ev.of_eq ?_ (fun n => F_spec_l1CmpText_eq n a0 a1)
  exact (Ev.ofLen h fun hl h => S_spec_l1CmpText_0_2 hl _ (0 : Nat) _ rfl h)
theorem hcs_spec_l1CmpText : ∀ x ∈ cs_spec_l1CmpText, CtrOk Try.prog x := (conOf_cons ok_spec_l1CmpNum conOf_nil)
theorem ok_spec_l1CmpText : CtrOk Try.prog c_spec_l1CmpText := by
  refine ctr_of_run (c := c_spec_l1CmpText) (by kernel_rfl : Try.prog.funcs[102]? = some Try.f102) (code := Try.f102.body.getD .skip) (by kernel_rfl) (by kernel_rfl) (by kernel_rfl) (A := A_spec_l1CmpText) (I := In_spec_l1CmpText) hcs_spec_l1CmpText ?_
  rintro ⟨a0, a1, u⟩ y hy
  exact (S_spec_l1CmpText a0 a1 hy).get

/-! ## spec.l1Cmp (79) -/
noncomputable def P_spec_l1Cmp (a0 : DAtom) (a1 : DAtom) : Option Int :=
  bif !decide (T_spec_l1CmpNum a0.1 a1.1 = 0) then
    some (T_spec_l1CmpNum a0.1 a1.1)
  else
    bif !decide (T_spec_l1CmpNum a0.2.1 a1.2.1 = 0) then
      some (T_spec_l1CmpNum a0.2.1 a1.2.1)
    else
      Option.bind (P_spec_l1CmpText a0.2.2.2 a1.2.2.2) fun (y1 : Int) =>
      bif !decide (y1 = 0) then
        some y1
      else
        Option.bind (P_spec_l1CmpText a0.2.2.1 a1.2.2.1) fun (y2 : Int) =>
        some y2
noncomputable def c_spec_l1Cmp : Ctr := ⟨79, [TyAtom, TyAtom], [I64], fun x => P_spec_l1Cmp x.1 x.2.1⟩
def A_spec_l1Cmp : List (List Nat × Ann) := []
def In_spec_l1Cmp : List (List Nat × Nat) := []
noncomputable def cs_spec_l1Cmp : List Ctr := [c_spec_l1CmpNum, c_spec_l1CmpText]
noncomputable def F_spec_l1Cmp (n : Nat) (a0 : DAtom) (a1 : DAtom) : Option Int := run Try.prog A_spec_l1Cmp In_spec_l1Cmp (conOf cs_spec_l1Cmp) Try.f79 (Try.f79.body.getD .skip) (packT [I64]) n (argsV [TyAtom, TyAtom] (a0, a1, ()))
theorem F_spec_l1Cmp_eq (n : Nat) (a0 : DAtom) (a1 : DAtom) : F_spec_l1Cmp n a0 a1 =
    bif !decide (T_spec_l1CmpNum a0.1 a1.1 = 0) then
      some (T_spec_l1CmpNum a0.1 a1.1)
    else
      bif !decide (T_spec_l1CmpNum a0.2.1 a1.2.1 = 0) then
        some (T_spec_l1CmpNum a0.2.1 a1.2.1)
      else
        Option.bind (P_spec_l1CmpText a0.2.2.2 a1.2.2.2) fun (y1 : Int) =>
        bif !decide (y1 = 0) then
          some y1
        else
          Option.bind (P_spec_l1CmpText a0.2.2.1 a1.2.2.1) fun (y2 : Int) =>
          some y2 := by kernel_rfl
theorem S_spec_l1Cmp (a0 : DAtom) (a1 : DAtom) {r : Int} (h : P_spec_l1Cmp a0 a1 = some r) : Ev (fun n => F_spec_l1Cmp n a0 a1) r := by
  rw [P_spec_l1Cmp] at h
  refine Ev.of_eq ?_ (fun n => F_spec_l1Cmp_eq n a0 a1)
  exact (Ev.ofBif h (fun h => (Ev.ofSome h)) (fun h => (Ev.ofBif h (fun h => (Ev.ofSome h)) (fun h => (Ev.ofBind h fun y1 h => (Ev.ofBif h (fun h => (Ev.ofSome h)) (fun h => (Ev.ofBind h fun y2 h => (Ev.ofSome h)))))))))
theorem hcs_spec_l1Cmp : ∀ x ∈ cs_spec_l1Cmp, CtrOk Try.prog x := (conOf_cons ok_spec_l1CmpNum (conOf_cons ok_spec_l1CmpText conOf_nil))
theorem ok_spec_l1Cmp : CtrOk Try.prog c_spec_l1Cmp := by
  refine ctr_of_run (c := c_spec_l1Cmp) (by kernel_rfl : Try.prog.funcs[79]? = some Try.f79) (code := Try.f79.body.getD .skip) (by kernel_rfl) (by kernel_rfl) (by kernel_rfl) (A := A_spec_l1Cmp) (I := In_spec_l1Cmp) hcs_spec_l1Cmp ?_
  rintro ⟨a0, a1, u⟩ y hy
  exact (S_spec_l1Cmp a0 a1 hy).get

/-! ## spec.GoodValue (131) -/
noncomputable def P_spec_GoodValue_0_19 (x4 : DValue) : List (List Int) → Nat → Option Bool
  | [], k =>
      some true
  | e :: rest, k =>
      Option.bind (P_spec_GoodName (e)) fun (y4 : Bool) =>
      bif !(y4) then
        some false
      else
        bif decide ((0 : Int) < (k : Int)) then
          bif inB (IntKind.wrap .i64 ((k : Int) - 1)) x4.2.2.2.length then
            Option.bind (P_spec_l1CmpText (rd x4.2.2.2 (IntKind.wrap .i64 ((k : Int) - 1)) (Ty.dflt .str)) (e)) fun (y5 : Int) =>
            bif decide ((0 : Int) ≤ y5) then
              some false
            else
              P_spec_GoodValue_0_19 x4 rest (k + 1)
          else none
        else
          P_spec_GoodValue_0_19 x4 rest (k + 1)
noncomputable def P_spec_GoodValue_0_9 (x4 : DValue) : List DAtom → Nat → Option Bool
  | [], k =>
      bif decide (x4.1 = 2) then
        some (decide ((x4.2.2.2.length : Int) = 0))
      else
        bif !decide ((x4.2.2.2.length : Int) = (x4.2.2.1.length : Int)) then
          some false
        else
          lenOk x4.2.2.2 (P_spec_GoodValue_0_19 x4 x4.2.2.2 0)
  | e :: rest, k =>
      Option.bind (P_spec_GoodAtom (e)) fun (y2 : Bool) =>
      bif !(y2) then
        some false
      else
        bif decide (x4.1 = 2) then
          bif decide ((0 : Int) < (k : Int)) then
            bif inB (IntKind.wrap .i64 ((k : Int) - 1)) x4.2.2.1.length then
              Option.bind (P_spec_l1Cmp (rd x4.2.2.1 (IntKind.wrap .i64 ((k : Int) - 1)) (Ty.dflt TyAtom)) (e)) fun (y3 : Int) =>
              bif decide ((0 : Int) ≤ y3) then
                some false
              else
                P_spec_GoodValue_0_9 x4 rest (k + 1)
            else none
          else
            P_spec_GoodValue_0_9 x4 rest (k + 1)
        else
          P_spec_GoodValue_0_9 x4 rest (k + 1)
noncomputable def P_spec_GoodValue_1_6 (x1 : Bool) (x2 : DValue) : Option Bool :=
  bif x1 then
    bif !@decide (x2.2.1 = (0, 0, ([] : List Int), ([] : List Int))) (Ty.decEq TyAtom x2.2.1 (0, 0, ([] : List Int), ([] : List Int))) then
      some false
    else
      bif decide ((50 : Int) < (x2.2.2.1.length : Int)) then
        some false
      else
        lenOk x2.2.2.1 (P_spec_GoodValue_0_9 x2 x2.2.2.1 0)
  else
    some false
noncomputable def P_spec_GoodValue (a0 : DValue) : Option Bool :=
  bif decide (a0.1 = 1) then
    Option.bind (P_spec_GoodAtom a0.2.1) fun (y1 : Bool) =>
    bif y1 then
      bif decide ((a0.2.2.1.length : Int) = 0) then
        some (decide ((a0.2.2.2.length : Int) = 0))
      else
        some false
    else
      some false
  else
    bif decide (a0.1 = 2) then
      P_spec_GoodValue_1_6 (decide (a0.1 = 2)) a0
    else
      P_spec_GoodValue_1_6 (decide (a0.1 = 3)) a0
noncomputable def c_spec_GoodValue : Ctr := ⟨131, [TyValue], [.bool], fun x => P_spec_GoodValue x.1⟩
def A_spec_GoodValue : List (List Nat × Ann) := [([1, 6], [.keep 0 1, .keep 0 26, .boxd 0 1 TyValue]), ([0, 9], [.keep 0 1, .keep 0 40, .keep 0 41, .keep 0 42, .boxd 0 1 TyValue]), ([0, 19], [.keep 0 1, .keep 0 86, .keep 0 87, .keep 0 88, .boxd 0 1 TyValue])]
def In_spec_GoodValue : List (List Nat × Nat) := []
noncomputable def cs_spec_GoodValue : List Ctr := [c_spec_GoodAtom, c_spec_l1Cmp, c_spec_GoodName, c_spec_l1CmpText]
noncomputable def F_spec_GoodValue (n : Nat) (a0 : DValue) : Option Bool := run Try.prog A_spec_GoodValue In_spec_GoodValue (conOf cs_spec_GoodValue) Try.f131 (Try.f131.body.getD .skip) (packT [.bool]) n (argsV [TyValue] (a0, ()))
noncomputable abbrev L_spec_GoodValue_1_6 (n : Nat) (x1 : Bool) (x2 : DValue) : Option Bool := lam Try.prog A_spec_GoodValue In_spec_GoodValue (conOf cs_spec_GoodValue) Try.f131 (Try.f131.body.getD .skip) (packT [.bool]) n [1, 6] [.ptr 0 1 0, .d .bool x1, .agg (explode TyValue x2)]
noncomputable abbrev L_spec_GoodValue_0_9 (n : Nat) (x1 : (List DAtom)) (x2 : Int) (x3 : Int) (x4 : DValue) : Option Bool := lam Try.prog A_spec_GoodValue In_spec_GoodValue (conOf cs_spec_GoodValue) Try.f131 (Try.f131.body.getD .skip) (packT [.bool]) n [0, 9] [.ptr 0 1 0, .d (.list TyAtom) x1, .d I64 x2, .d I64 x3, .agg (explode TyValue x4)]
noncomputable abbrev L_spec_GoodValue_0_19 (n : Nat) (x1 : (List (List Int))) (x2 : Int) (x3 : Int) (x4 : DValue) : Option Bool := lam Try.prog A_spec_GoodValue In_spec_GoodValue (conOf cs_spec_GoodValue) Try.f131 (Try.f131.body.getD .skip) (packT [.bool]) n [0, 19] [.ptr 0 1 0, .d (.list .str) x1, .d I64 x2, .d I64 x3, .agg (explode TyValue x4)]
theorem F_spec_GoodValue_eq (n : Nat) (a0 : DValue) : F_spec_GoodValue n a0 =
    bif decide (a0.1 = 1) then
      Option.bind (P_spec_GoodAtom a0.2.1) fun (y1 : Bool) =>
      bif y1 then
        bif decide ((a0.2.2.1.length : Int) = 0) then
          some (decide ((a0.2.2.2.length : Int) = 0))
        else
          some false
      else
        some false
    else
      bif decide (a0.1 = 2) then
        L_spec_GoodValue_1_6 n (decide (a0.1 = 2)) a0
      else
        L_spec_GoodValue_1_6 n (decide (a0.1 = 3)) a0 := by kernel_rfl
theorem L_spec_GoodValue_1_6_eq (n : Nat) (x1 : Bool) (x2 : DValue) : L_spec_GoodValue_1_6 (n + 1) x1 x2 =
    bif x1 then
      bif !@decide (x2.2.1 = (0, 0, ([] : List Int), ([] : List Int))) (Ty.decEq TyAtom x2.2.1 (0, 0, ([] : List Int), ([] : List Int))) then
        some false
      else
        bif decide ((50 : Int) < (x2.2.2.1.length : Int)) then
          some false
        else
          L_spec_GoodValue_0_9 n x2.2.2.1 (x2.2.2.1.length : Int) 0 x2
    else
      some false := by kernel_rfl
theorem L_spec_GoodValue_0_9_eq (n : Nat) (x1 : (List DAtom)) (x2 : Int) (x3 : Int) (x4 : DValue) : L_spec_GoodValue_0_9 (n + 1) x1 x2 x3 x4 =
    bif decide (x3 < x2) then
      bif inB x3 x1.length then
        Option.bind (P_spec_GoodAtom (rd x1 x3 (Ty.dflt TyAtom))) fun (y2 : Bool) =>
        bif !(y2) then
          some false
        else
          bif decide (x4.1 = 2) then
            bif decide ((0 : Int) < x3) then
              bif inB (IntKind.wrap .i64 (x3 - 1)) x4.2.2.1.length then
                Option.bind (P_spec_l1Cmp (rd x4.2.2.1 (IntKind.wrap .i64 (x3 - 1)) (Ty.dflt TyAtom)) (rd x1 x3 (Ty.dflt TyAtom))) fun (y3 : Int) =>
                bif decide ((0 : Int) ≤ y3) then
                  some false
                else
                  L_spec_GoodValue_0_9 n x1 x2 (IntKind.wrap .i64 (x3 + 1)) x4
              else none
            else
              L_spec_GoodValue_0_9 n x1 x2 (IntKind.wrap .i64 (x3 + 1)) x4
          else
            L_spec_GoodValue_0_9 n x1 x2 (IntKind.wrap .i64 (x3 + 1)) x4
      else none
    else
      bif decide (x4.1 = 2) then
        some (decide ((x4.2.2.2.length : Int) = 0))
      else
        bif !decide ((x4.2.2.2.length : Int) = (x4.2.2.1.length : Int)) then
          some false
        else
          L_spec_GoodValue_0_19 n x4.2.2.2 (x4.2.2.2.length : Int) 0 x4 := by kernel_rfl
theorem L_spec_GoodValue_0_19_eq (n : Nat) (x1 : (List (List Int))) (x2 : Int) (x3 : Int) (x4 : DValue) : L_spec_GoodValue_0_19 (n + 1) x1 x2 x3 x4 =
    bif decide (x3 < x2) then
      bif inB x3 x1.length then
        Option.bind (P_spec_GoodName (rd x1 x3 (Ty.dflt .str))) fun (y4 : Bool) =>
        bif !(y4) then
          some false
        else
          bif decide ((0 : Int) < x3) then
            bif inB (IntKind.wrap .i64 (x3 - 1)) x4.2.2.2.length then
              Option.bind (P_spec_l1CmpText (rd x4.2.2.2 (IntKind.wrap .i64 (x3 - 1)) (Ty.dflt .str)) (rd x1 x3 (Ty.dflt .str))) fun (y5 : Int) =>
              bif decide ((0 : Int) ≤ y5) then
                some false
              else
                L_spec_GoodValue_0_19 n x1 x2 (IntKind.wrap .i64 (x3 + 1)) x4
            else none
          else
            L_spec_GoodValue_0_19 n x1 x2 (IntKind.wrap .i64 (x3 + 1)) x4
      else none
    else
      some true := by kernel_rfl
theorem S_spec_GoodValue_0_19 {x1 : (List (List Int))} {x4 : DValue} (hl : x1.length ≤ maxLen) : ∀ (rest : List (List Int)) (k : Nat) (r : Bool), rest = x1.drop k → P_spec_GoodValue_0_19 x4 rest k = some r → Ev (fun n => L_spec_GoodValue_0_19 n x1 (x1.length : Int) (k : Int) x4) r := by
  intro rest
  induction rest with
  | nil =>
    intro k r hr h
    have hk := drop_nil hr
    rw [P_spec_GoodValue_0_19] at h
    refine Ev.step ?_ (fun n => L_spec_GoodValue_0_19_eq n x1 (x1.length : Int) (k : Int) x4)
    rw [show decide ((k : Int) < (x1.length : Int)) = false from decide_eq_false (by omega)]
    exact Ev.neg rfl (Ev.ofSome h)
  | cons e rest ih =>
    intro k r hr h
    obtain ⟨hk, hx, hr2⟩ := drop_cons (d := (Ty.dflt .str)) hr
    have hw := wrap_succ hl hk
    have ih2 : ∀ (r : Bool), P_spec_GoodValue_0_19 x4 rest (k + 1) = some r → Ev (fun n => L_spec_GoodValue_0_19 n x1 (x1.length : Int) (IntKind.wrap .i64 ((k : Int) + 1)) x4) r := by
      intro r h; rw [hw]; exact ih (k + 1) r hr2 h
    rw [P_spec_GoodValue_0_19] at h
    refine Ev.step ?_ (fun n => L_spec_GoodValue_0_19_eq n x1 (x1.length : Int) (k : Int) x4)
    rw [show decide ((k : Int) < (x1.length : Int)) = true from decide_eq_true (by omega), inB_nat2 hk, hx]
    exact Ev.pos rfl (Ev.pos rfl (Ev.ofBind h fun y4 h => (Ev.ofBif h (fun h => (Ev.ofSome h)) (fun h => (Ev.ofBif h (fun h => (Ev.ofBif h (fun h => (Ev.ofBind h fun y5 h => (Ev.ofBif h (fun h => (Ev.ofSome h)) (fun h => (ih2  _ h))))) (fun h => (Ev.ofNone h)))) (fun h => (ih2  _ h)))))))
theorem S_spec_GoodValue_0_9 {x1 : (List DAtom)} {x4 : DValue} (hl : x1.length ≤ maxLen) : ∀ (rest : List DAtom) (k : Nat) (r : Bool), rest = x1.drop k → P_spec_GoodValue_0_9 x4 rest k = some r → Ev (fun n => L_spec_GoodValue_0_9 n x1 (x1.length : Int) (k : Int) x4) r := by
  intro rest
  induction rest with
  | nil =>
    intro k r hr h
    have hk := drop_nil hr
    rw [P_spec_GoodValue_0_9] at h
    refine Ev.step ?_ (fun n => L_spec_GoodValue_0_9_eq n x1 (x1.length : Int) (k : Int) x4)
    rw [show decide ((k : Int) < (x1.length : Int)) = false from decide_eq_false (by omega)]
    exact Ev.neg rfl (Ev.ofBif h (fun h => (Ev.ofSome h)) (fun h => (Ev.ofBif h (fun h => (Ev.ofSome h)) (fun h => (Ev.ofLen h fun hl h => S_spec_GoodValue_0_19 hl _ (0 : Nat) _ rfl h)))))
  | cons e rest ih =>
    intro k r hr h
    obtain ⟨hk, hx, hr2⟩ := drop_cons (d := (Ty.dflt TyAtom)) hr
    have hw := wrap_succ hl hk
    have ih2 : ∀ (r : Bool), P_spec_GoodValue_0_9 x4 rest (k + 1) = some r → Ev (fun n => L_spec_GoodValue_0_9 n x1 (x1.length : Int) (IntKind.wrap .i64 ((k : Int) + 1)) x4) r := by
      intro r h; rw [hw]; exact ih (k + 1) r hr2 h
    rw [P_spec_GoodValue_0_9] at h
    refine Ev.step ?_ (fun n => L_spec_GoodValue_0_9_eq n x1 (x1.length : Int) (k : Int) x4)
    rw [show decide ((k : Int) < (x1.length : Int)) = true from decide_eq_true (by omega), inB_nat2 hk, hx]
    exact Ev.pos rfl (Ev.pos rfl (Ev.ofBind h fun y2 h => (Ev.ofBif h (fun h => (Ev.ofSome h)) (fun h => (Ev.ofBif h (fun h => (Ev.ofBif h (fun h => (Ev.ofBif h (fun h => (Ev.ofBind h fun y3 h => (Ev.ofBif h (fun h => (Ev.ofSome h)) (fun h => (ih2  _ h))))) (fun h => (Ev.ofNone h)))) (fun h => (ih2  _ h)))) (fun h => (ih2  _ h)))))))
theorem S_spec_GoodValue_1_6 {x1 : Bool} {x2 : DValue} {r : Bool} (h : P_spec_GoodValue_1_6 x1 x2 = some r) : Ev (fun n => L_spec_GoodValue_1_6 n x1 x2) r := by
  rw [P_spec_GoodValue_1_6] at h
  refine Ev.step ?_ (fun n => L_spec_GoodValue_1_6_eq n x1 x2)
  exact (Ev.ofBif h (fun h => (Ev.ofBif h (fun h => (Ev.ofSome h)) (fun h => (Ev.ofBif h (fun h => (Ev.ofSome h)) (fun h => (Ev.ofLen h fun hl h => S_spec_GoodValue_0_9 hl _ (0 : Nat) _ rfl h)))))) (fun h => (Ev.ofSome h)))
theorem S_spec_GoodValue (a0 : DValue) {r : Bool} (h : P_spec_GoodValue a0 = some r) : Ev (fun n => F_spec_GoodValue n a0) r := by
  rw [P_spec_GoodValue] at h
  refine Ev.of_eq ?_ (fun n => F_spec_GoodValue_eq n a0)
  exact (Ev.ofBif h (fun h => (Ev.ofBind h fun y1 h => (Ev.ofBif h (fun h => (Ev.ofBif h (fun h => (Ev.ofSome h)) (fun h => (Ev.ofSome h)))) (fun h => (Ev.ofSome h))))) (fun h => (Ev.ofBif h (fun h => (S_spec_GoodValue_1_6 h)) (fun h => (S_spec_GoodValue_1_6 h)))))
theorem hcs_spec_GoodValue : ∀ x ∈ cs_spec_GoodValue, CtrOk Try.prog x := (conOf_cons ok_spec_GoodAtom (conOf_cons ok_spec_l1Cmp (conOf_cons ok_spec_GoodName (conOf_cons ok_spec_l1CmpText conOf_nil))))
theorem ok_spec_GoodValue : CtrOk Try.prog c_spec_GoodValue := by
  refine ctr_of_run (c := c_spec_GoodValue) (by kernel_rfl : Try.prog.funcs[131]? = some Try.f131) (code := Try.f131.body.getD .skip) (by kernel_rfl) (by kernel_rfl) (by kernel_rfl) (A := A_spec_GoodValue) (I := In_spec_GoodValue) hcs_spec_GoodValue ?_
  rintro ⟨a0, u⟩ y hy
  exact (S_spec_GoodValue a0 hy).get

/-! ## spec.l11Fields (80) -/
noncomputable def P_spec_l11Fields_0_4 (x1 : (List (List Int))) (x2 : (List DValue)) : List (List Int) → Nat → Option Bool
  | [], k =>
      some true
  | e :: rest, k =>
      Option.bind (P_spec_GoodName (e)) fun (y1 : Bool) =>
      bif !(y1) then
        some false
      else
        bif decide ((0 : Int) < (k : Int)) then
          bif inB (IntKind.wrap .i64 ((k : Int) - 1)) x1.length then
            Option.bind (P_spec_l1CmpText (rd x1 (IntKind.wrap .i64 ((k : Int) - 1)) (Ty.dflt .str)) (e)) fun (y2 : Int) =>
            bif decide ((0 : Int) ≤ y2) then
              some false
            else
              bif inB (k : Int) x2.length then
                Option.bind (P_spec_GoodValue (rd x2 (k : Int) (Ty.dflt TyValue))) fun (y3 : Bool) =>
                bif !(y3) then
                  some false
                else
                  bif inB (k : Int) x2.length then
                    bif decide ((rd x2 (k : Int) (Ty.dflt TyValue)).1 = 3) then
                      some false
                    else
                      P_spec_l11Fields_0_4 x1 x2 rest (k + 1)
                  else none
              else none
          else none
        else
          bif inB (k : Int) x2.length then
            Option.bind (P_spec_GoodValue (rd x2 (k : Int) (Ty.dflt TyValue))) fun (y4 : Bool) =>
            bif !(y4) then
              some false
            else
              bif inB (k : Int) x2.length then
                bif decide ((rd x2 (k : Int) (Ty.dflt TyValue)).1 = 3) then
                  some false
                else
                  P_spec_l11Fields_0_4 x1 x2 rest (k + 1)
              else none
          else none
noncomputable def P_spec_l11Fields (a0 : (List (List Int))) (a1 : (List DValue)) : Option Bool :=
  bif decide ((20 : Int) < (a0.length : Int)) then
    some false
  else
    bif !decide ((a1.length : Int) = (a0.length : Int)) then
      some false
    else
      lenOk a0 (P_spec_l11Fields_0_4 a0 a1 a0 0)
noncomputable def c_spec_l11Fields : Ctr := ⟨80, [(.list .str), (.list TyValue)], [.bool], fun x => P_spec_l11Fields x.1 x.2.1⟩
def A_spec_l11Fields : List (List Nat × Ann) := [([0, 4], [.keep 0 0, .keep 0 1, .keep 0 17, .keep 0 18, .keep 0 19])]
def In_spec_l11Fields : List (List Nat × Nat) := []
noncomputable def cs_spec_l11Fields : List Ctr := [c_spec_GoodName, c_spec_l1CmpText, c_spec_GoodValue]
noncomputable def F_spec_l11Fields (n : Nat) (a0 : (List (List Int))) (a1 : (List DValue)) : Option Bool := run Try.prog A_spec_l11Fields In_spec_l11Fields (conOf cs_spec_l11Fields) Try.f80 (Try.f80.body.getD .skip) (packT [.bool]) n (argsV [(.list .str), (.list TyValue)] (a0, a1, ()))
noncomputable abbrev L_spec_l11Fields_0_4 (n : Nat) (x1 : (List (List Int))) (x2 : (List DValue)) (x3 : (List (List Int))) (x4 : Int) (x5 : Int) : Option Bool := lam Try.prog A_spec_l11Fields In_spec_l11Fields (conOf cs_spec_l11Fields) Try.f80 (Try.f80.body.getD .skip) (packT [.bool]) n [0, 4] [.d (.list .str) x1, .d (.list TyValue) x2, .d (.list .str) x3, .d I64 x4, .d I64 x5]
theorem F_spec_l11Fields_eq (n : Nat) (a0 : (List (List Int))) (a1 : (List DValue)) : F_spec_l11Fields n a0 a1 =
    bif decide ((20 : Int) < (a0.length : Int)) then
      some false
    else
      bif !decide ((a1.length : Int) = (a0.length : Int)) then
        some false
      else
        L_spec_l11Fields_0_4 n a0 a1 a0 (a0.length : Int) 0 := by kernel_rfl
theorem L_spec_l11Fields_0_4_eq (n : Nat) (x1 : (List (List Int))) (x2 : (List DValue)) (x3 : (List (List Int))) (x4 : Int) (x5 : Int) : L_spec_l11Fields_0_4 (n + 1) x1 x2 x3 x4 x5 =
    bif decide (x5 < x4) then
      bif inB x5 x3.length then
        Option.bind (P_spec_GoodName (rd x3 x5 (Ty.dflt .str))) fun (y1 : Bool) =>
        bif !(y1) then
          some false
        else
          bif decide ((0 : Int) < x5) then
            bif inB (IntKind.wrap .i64 (x5 - 1)) x1.length then
              Option.bind (P_spec_l1CmpText (rd x1 (IntKind.wrap .i64 (x5 - 1)) (Ty.dflt .str)) (rd x3 x5 (Ty.dflt .str))) fun (y2 : Int) =>
              bif decide ((0 : Int) ≤ y2) then
                some false
              else
                bif inB x5 x2.length then
                  Option.bind (P_spec_GoodValue (rd x2 x5 (Ty.dflt TyValue))) fun (y3 : Bool) =>
                  bif !(y3) then
                    some false
                  else
                    bif inB x5 x2.length then
                      bif decide ((rd x2 x5 (Ty.dflt TyValue)).1 = 3) then
                        some false
                      else
                        L_spec_l11Fields_0_4 n x1 x2 x3 x4 (IntKind.wrap .i64 (x5 + 1))
                    else none
                else none
            else none
          else
            bif inB x5 x2.length then
              Option.bind (P_spec_GoodValue (rd x2 x5 (Ty.dflt TyValue))) fun (y4 : Bool) =>
              bif !(y4) then
                some false
              else
                bif inB x5 x2.length then
                  bif decide ((rd x2 x5 (Ty.dflt TyValue)).1 = 3) then
                    some false
                  else
                    L_spec_l11Fields_0_4 n x1 x2 x3 x4 (IntKind.wrap .i64 (x5 + 1))
                else none
            else none
      else none
    else
      some true := by kernel_rfl
theorem S_spec_l11Fields_0_4 {x1 : (List (List Int))} {x2 : (List DValue)} (hl : x1.length ≤ maxLen) : ∀ (rest : List (List Int)) (k : Nat) (r : Bool), rest = x1.drop k → P_spec_l11Fields_0_4 x1 x2 rest k = some r → Ev (fun n => L_spec_l11Fields_0_4 n x1 x2 x1 (x1.length : Int) (k : Int)) r := by
  intro rest
  induction rest with
  | nil =>
    intro k r hr h
    have hk := drop_nil hr
    rw [P_spec_l11Fields_0_4] at h
    refine Ev.step ?_ (fun n => L_spec_l11Fields_0_4_eq n x1 x2 x1 (x1.length : Int) (k : Int))
    rw [show decide ((k : Int) < (x1.length : Int)) = false from decide_eq_false (by omega)]
    exact Ev.neg rfl (Ev.ofSome h)
  | cons e rest ih =>
    intro k r hr h
    obtain ⟨hk, hx, hr2⟩ := drop_cons (d := (Ty.dflt .str)) hr
    have hw := wrap_succ hl hk
    have ih2 : ∀ (r : Bool), P_spec_l11Fields_0_4 x1 x2 rest (k + 1) = some r → Ev (fun n => L_spec_l11Fields_0_4 n x1 x2 x1 (x1.length : Int) (IntKind.wrap .i64 ((k : Int) + 1))) r := by
      intro r h; rw [hw]; exact ih (k + 1) r hr2 h
    rw [P_spec_l11Fields_0_4] at h
    refine Ev.step ?_ (fun n => L_spec_l11Fields_0_4_eq n x1 x2 x1 (x1.length : Int) (k : Int))
    rw [show decide ((k : Int) < (x1.length : Int)) = true from decide_eq_true (by omega), inB_nat2 hk, hx]
    exact Ev.pos rfl (Ev.pos rfl (Ev.ofBind h fun y1 h => (Ev.ofBif h (fun h => (Ev.ofSome h)) (fun h => (Ev.ofBif h (fun h => (Ev.ofBif h (fun h => (Ev.ofBind h fun y2 h => (Ev.ofBif h (fun h => (Ev.ofSome h)) (fun h => (Ev.ofBif h (fun h => (Ev.ofBind h fun y3 h => (Ev.ofBif h (fun h => (Ev.ofSome h)) (fun h => (Ev.ofBif h (fun h => (Ev.ofBif h (fun h => (Ev.ofSome h)) (fun h => (ih2  _ h)))) (fun h => (Ev.ofNone h))))))) (fun h => (Ev.ofNone h))))))) (fun h => (Ev.ofNone h)))) (fun h => (Ev.ofBif h (fun h => (Ev.ofBind h fun y4 h => (Ev.ofBif h (fun h => (Ev.ofSome h)) (fun h => (Ev.ofBif h (fun h => (Ev.ofBif h (fun h => (Ev.ofSome h)) (fun h => (ih2  _ h)))) (fun h => (Ev.ofNone h))))))) (fun h => (Ev.ofNone h)))))))))
theorem S_spec_l11Fields (a0 : (List (List Int))) (a1 : (List DValue)) {r : Bool} (h : P_spec_l11Fields a0 a1 = some r) : Ev (fun n => F_spec_l11Fields n a0 a1) r := by
  rw [P_spec_l11Fields] at h
  refine Ev.of_eq ?_ (fun n => F_spec_l11Fields_eq n a0 a1)
  exact (Ev.ofBif h (fun h => (Ev.ofSome h)) (fun h => (Ev.ofBif h (fun h => (Ev.ofSome h)) (fun h => (Ev.ofLen h fun hl h => S_spec_l11Fields_0_4 hl _ (0 : Nat) _ rfl h)))))
theorem hcs_spec_l11Fields : ∀ x ∈ cs_spec_l11Fields, CtrOk Try.prog x := (conOf_cons ok_spec_GoodName (conOf_cons ok_spec_l1CmpText (conOf_cons ok_spec_GoodValue conOf_nil)))
theorem ok_spec_l11Fields : CtrOk Try.prog c_spec_l11Fields := by
  refine ctr_of_run (c := c_spec_l11Fields) (by kernel_rfl : Try.prog.funcs[80]? = some Try.f80) (code := Try.f80.body.getD .skip) (by kernel_rfl) (by kernel_rfl) (by kernel_rfl) (A := A_spec_l11Fields) (I := In_spec_l11Fields) hcs_spec_l11Fields ?_
  rintro ⟨a0, a1, u⟩ y hy
  exact (S_spec_l11Fields a0 a1 hy).get

/-! ## spec.GoodThings (30) -/
noncomputable def P_spec_GoodThings_0_9 (K0 : Option Bool) (x8 : DThing) : List DAtom → Nat → Option Bool
  | [], k =>
      K0
  | e :: rest, k =>
      Option.bind (P_spec_l11Ref (e)) fun (y4 : Bool) =>
      bif !(y4) then
        some false
      else
        bif decide ((0 : Int) < (k : Int)) then
          bif inB (IntKind.wrap .i64 ((k : Int) - 1)) x8.2.1.length then
            Option.bind (P_spec_l1Cmp (rd x8.2.1 (IntKind.wrap .i64 ((k : Int) - 1)) (Ty.dflt TyAtom)) (e)) fun (y5 : Int) =>
            bif decide ((0 : Int) ≤ y5) then
              some false
            else
              P_spec_GoodThings_0_9 K0 x8 rest (k + 1)
          else none
        else
          P_spec_GoodThings_0_9 K0 x8 rest (k + 1)
noncomputable def P_spec_GoodThings_0_4 (x1 : (List DThing)) : List DThing → Nat → Option Bool
  | [], k =>
      some true
  | e :: rest, k =>
      Option.bind (P_spec_l11Ref ((e).1)) fun (y1 : Bool) =>
      bif !(y1) then
        some false
      else
        bif decide ((0 : Int) < (k : Int)) then
          bif inB (IntKind.wrap .i64 ((k : Int) - 1)) x1.length then
            Option.bind (P_spec_l1Cmp ((rd x1 (IntKind.wrap .i64 ((k : Int) - 1)) (Ty.dflt TyThing)).1) ((e).1)) fun (y2 : Int) =>
            bif decide ((0 : Int) ≤ y2) then
              some false
            else
              bif decide ((50 : Int) < ((((e).2).1).length : Int)) then
                some false
              else
                Option.bind (P_spec_l11Fields ((((e).2).2).1) ((((e).2).2).2)) fun (y3 : Bool) =>
                bif !(y3) then
                  some false
                else
                  lenOk (((e).2).1) (P_spec_GoodThings_0_9 (P_spec_GoodThings_0_4 x1 rest (k + 1)) (((e).1), ((e).2)) (((e).2).1) 0)
          else none
        else
          bif decide ((50 : Int) < ((((e).2).1).length : Int)) then
            some false
          else
            Option.bind (P_spec_l11Fields ((((e).2).2).1) ((((e).2).2).2)) fun (y6 : Bool) =>
            bif !(y6) then
              some false
            else
              lenOk (((e).2).1) (P_spec_GoodThings_0_9 (P_spec_GoodThings_0_4 x1 rest (k + 1)) (((e).1), ((e).2)) (((e).2).1) 0)
noncomputable def P_spec_GoodThings (a0 : (List DThing)) : Option Bool :=
  bif decide ((100 : Int) < (a0.length : Int)) then
    some false
  else
    lenOk a0 (P_spec_GoodThings_0_4 a0 a0 0)
noncomputable def c_spec_GoodThings : Ctr := ⟨30, [(.list TyThing)], [.bool], fun x => P_spec_GoodThings x.1⟩
def A_spec_GoodThings : List (List Nat × Ann) := [([0, 4], [.keep 0 0, .keep 0 10, .keep 0 11, .keep 0 12]), ([0, 9], [.keep 0 0, .keep 0 4, .keep 0 10, .keep 0 11, .keep 0 12, .keep 0 52, .keep 0 53, .keep 0 54, .boxd 0 4 TyThing])]
def In_spec_GoodThings : List (List Nat × Nat) := []
noncomputable def cs_spec_GoodThings : List Ctr := [c_spec_l11Ref, c_spec_l1Cmp, c_spec_l11Fields]
noncomputable def F_spec_GoodThings (n : Nat) (a0 : (List DThing)) : Option Bool := run Try.prog A_spec_GoodThings In_spec_GoodThings (conOf cs_spec_GoodThings) Try.f30 (Try.f30.body.getD .skip) (packT [.bool]) n (argsV [(.list TyThing)] (a0, ()))
noncomputable abbrev L_spec_GoodThings_0_4 (n : Nat) (x1 : (List DThing)) (x2 : (List DThing)) (x3 : Int) (x4 : Int) : Option Bool := lam Try.prog A_spec_GoodThings In_spec_GoodThings (conOf cs_spec_GoodThings) Try.f30 (Try.f30.body.getD .skip) (packT [.bool]) n [0, 4] [.d (.list TyThing) x1, .d (.list TyThing) x2, .d I64 x3, .d I64 x4]
noncomputable abbrev L_spec_GoodThings_0_9 (n : Nat) (x1 : (List DThing)) (x2 : (List DThing)) (x3 : Int) (x4 : Int) (x5 : (List DAtom)) (x6 : Int) (x7 : Int) (x8 : DThing) : Option Bool := lam Try.prog A_spec_GoodThings In_spec_GoodThings (conOf cs_spec_GoodThings) Try.f30 (Try.f30.body.getD .skip) (packT [.bool]) n [0, 9] [.d (.list TyThing) x1, .ptr 0 4 0, .d (.list TyThing) x2, .d I64 x3, .d I64 x4, .d (.list TyAtom) x5, .d I64 x6, .d I64 x7, .agg (explode TyThing x8)]
theorem F_spec_GoodThings_eq (n : Nat) (a0 : (List DThing)) : F_spec_GoodThings n a0 =
    bif decide ((100 : Int) < (a0.length : Int)) then
      some false
    else
      L_spec_GoodThings_0_4 n a0 a0 (a0.length : Int) 0 := by kernel_rfl
theorem L_spec_GoodThings_0_4_eq (n : Nat) (x1 : (List DThing)) (x2 : (List DThing)) (x3 : Int) (x4 : Int) : L_spec_GoodThings_0_4 (n + 1) x1 x2 x3 x4 =
    bif decide (x4 < x3) then
      bif inB x4 x2.length then
        Option.bind (P_spec_l11Ref ((rd x2 x4 (Ty.dflt TyThing)).1)) fun (y1 : Bool) =>
        bif !(y1) then
          some false
        else
          bif decide ((0 : Int) < x4) then
            bif inB (IntKind.wrap .i64 (x4 - 1)) x1.length then
              Option.bind (P_spec_l1Cmp ((rd x1 (IntKind.wrap .i64 (x4 - 1)) (Ty.dflt TyThing)).1) ((rd x2 x4 (Ty.dflt TyThing)).1)) fun (y2 : Int) =>
              bif decide ((0 : Int) ≤ y2) then
                some false
              else
                bif decide ((50 : Int) < ((((rd x2 x4 (Ty.dflt TyThing)).2).1).length : Int)) then
                  some false
                else
                  Option.bind (P_spec_l11Fields ((((rd x2 x4 (Ty.dflt TyThing)).2).2).1) ((((rd x2 x4 (Ty.dflt TyThing)).2).2).2)) fun (y3 : Bool) =>
                  bif !(y3) then
                    some false
                  else
                    L_spec_GoodThings_0_9 n x1 x2 x3 x4 (((rd x2 x4 (Ty.dflt TyThing)).2).1) ((((rd x2 x4 (Ty.dflt TyThing)).2).1).length : Int) 0 (((rd x2 x4 (Ty.dflt TyThing)).1), ((rd x2 x4 (Ty.dflt TyThing)).2))
            else none
          else
            bif decide ((50 : Int) < ((((rd x2 x4 (Ty.dflt TyThing)).2).1).length : Int)) then
              some false
            else
              Option.bind (P_spec_l11Fields ((((rd x2 x4 (Ty.dflt TyThing)).2).2).1) ((((rd x2 x4 (Ty.dflt TyThing)).2).2).2)) fun (y6 : Bool) =>
              bif !(y6) then
                some false
              else
                L_spec_GoodThings_0_9 n x1 x2 x3 x4 (((rd x2 x4 (Ty.dflt TyThing)).2).1) ((((rd x2 x4 (Ty.dflt TyThing)).2).1).length : Int) 0 (((rd x2 x4 (Ty.dflt TyThing)).1), ((rd x2 x4 (Ty.dflt TyThing)).2))
      else none
    else
      some true := by kernel_rfl
theorem L_spec_GoodThings_0_9_eq (n : Nat) (x1 : (List DThing)) (x2 : (List DThing)) (x3 : Int) (x4 : Int) (x5 : (List DAtom)) (x6 : Int) (x7 : Int) (x8 : DThing) : L_spec_GoodThings_0_9 (n + 1) x1 x2 x3 x4 x5 x6 x7 x8 =
    bif decide (x7 < x6) then
      bif inB x7 x5.length then
        Option.bind (P_spec_l11Ref (rd x5 x7 (Ty.dflt TyAtom))) fun (y4 : Bool) =>
        bif !(y4) then
          some false
        else
          bif decide ((0 : Int) < x7) then
            bif inB (IntKind.wrap .i64 (x7 - 1)) x8.2.1.length then
              Option.bind (P_spec_l1Cmp (rd x8.2.1 (IntKind.wrap .i64 (x7 - 1)) (Ty.dflt TyAtom)) (rd x5 x7 (Ty.dflt TyAtom))) fun (y5 : Int) =>
              bif decide ((0 : Int) ≤ y5) then
                some false
              else
                L_spec_GoodThings_0_9 n x1 x2 x3 x4 x5 x6 (IntKind.wrap .i64 (x7 + 1)) x8
            else none
          else
            L_spec_GoodThings_0_9 n x1 x2 x3 x4 x5 x6 (IntKind.wrap .i64 (x7 + 1)) x8
      else none
    else
      L_spec_GoodThings_0_4 n x1 x2 x3 (IntKind.wrap .i64 (x4 + 1)) := by kernel_rfl
theorem S_spec_GoodThings_0_9 {K0 : Option Bool} {x1 : (List DThing)} {x3 : Int} {x4 : Int} {x5 : (List DAtom)} {x8 : DThing} (hl : x5.length ≤ maxLen) (hK0 : ∀  (r : Bool), K0 = some r → Ev (fun n => L_spec_GoodThings_0_4 n x1 x1 x3 (IntKind.wrap .i64 (x4 + 1))) r) : ∀ (rest : List DAtom) (k : Nat) (r : Bool), rest = x5.drop k → P_spec_GoodThings_0_9 K0 x8 rest k = some r → Ev (fun n => L_spec_GoodThings_0_9 n x1 x1 x3 x4 x5 (x5.length : Int) (k : Int) x8) r := by
  intro rest
  induction rest with
  | nil =>
    intro k r hr h
    have hk := drop_nil hr
    rw [P_spec_GoodThings_0_9] at h
    refine Ev.step ?_ (fun n => L_spec_GoodThings_0_9_eq n x1 x1 x3 x4 x5 (x5.length : Int) (k : Int) x8)
    rw [show decide ((k : Int) < (x5.length : Int)) = false from decide_eq_false (by omega)]
    exact Ev.neg rfl (hK0  _ h)
  | cons e rest ih =>
    intro k r hr h
    obtain ⟨hk, hx, hr2⟩ := drop_cons (d := (Ty.dflt TyAtom)) hr
    have hw := wrap_succ hl hk
    have ih2 : ∀ (r : Bool), P_spec_GoodThings_0_9 K0 x8 rest (k + 1) = some r → Ev (fun n => L_spec_GoodThings_0_9 n x1 x1 x3 x4 x5 (x5.length : Int) (IntKind.wrap .i64 ((k : Int) + 1)) x8) r := by
      intro r h; rw [hw]; exact ih (k + 1) r hr2 h
    rw [P_spec_GoodThings_0_9] at h
    refine Ev.step ?_ (fun n => L_spec_GoodThings_0_9_eq n x1 x1 x3 x4 x5 (x5.length : Int) (k : Int) x8)
    rw [show decide ((k : Int) < (x5.length : Int)) = true from decide_eq_true (by omega), inB_nat2 hk, hx]
    exact Ev.pos rfl (Ev.pos rfl (Ev.ofBind h fun y4 h => (Ev.ofBif h (fun h => (Ev.ofSome h)) (fun h => (Ev.ofBif h (fun h => (Ev.ofBif h (fun h => (Ev.ofBind h fun y5 h => (Ev.ofBif h (fun h => (Ev.ofSome h)) (fun h => (ih2  _ h))))) (fun h => (Ev.ofNone h)))) (fun h => (ih2  _ h)))))))
theorem S_spec_GoodThings_0_4 {x1 : (List DThing)} (hl : x1.length ≤ maxLen) : ∀ (rest : List DThing) (k : Nat) (r : Bool), rest = x1.drop k → P_spec_GoodThings_0_4 x1 rest k = some r → Ev (fun n => L_spec_GoodThings_0_4 n x1 x1 (x1.length : Int) (k : Int)) r := by
  intro rest
  induction rest with
  | nil =>
    intro k r hr h
    have hk := drop_nil hr
    rw [P_spec_GoodThings_0_4] at h
    refine Ev.step ?_ (fun n => L_spec_GoodThings_0_4_eq n x1 x1 (x1.length : Int) (k : Int))
    rw [show decide ((k : Int) < (x1.length : Int)) = false from decide_eq_false (by omega)]
    exact Ev.neg rfl (Ev.ofSome h)
  | cons e rest ih =>
    intro k r hr h
    obtain ⟨hk, hx, hr2⟩ := drop_cons (d := (Ty.dflt TyThing)) hr
    have hw := wrap_succ hl hk
    have ih2 : ∀ (r : Bool), P_spec_GoodThings_0_4 x1 rest (k + 1) = some r → Ev (fun n => L_spec_GoodThings_0_4 n x1 x1 (x1.length : Int) (IntKind.wrap .i64 ((k : Int) + 1))) r := by
      intro r h; rw [hw]; exact ih (k + 1) r hr2 h
    rw [P_spec_GoodThings_0_4] at h
    refine Ev.step ?_ (fun n => L_spec_GoodThings_0_4_eq n x1 x1 (x1.length : Int) (k : Int))
    rw [show decide ((k : Int) < (x1.length : Int)) = true from decide_eq_true (by omega), inB_nat2 hk, hx]
    exact Ev.pos rfl (Ev.pos rfl (Ev.ofBind h fun y1 h => (Ev.ofBif h (fun h => (Ev.ofSome h)) (fun h => (Ev.ofBif h (fun h => (Ev.ofBif h (fun h => (Ev.ofBind h fun y2 h => (Ev.ofBif h (fun h => (Ev.ofSome h)) (fun h => (Ev.ofBif h (fun h => (Ev.ofSome h)) (fun h => (Ev.ofBind h fun y3 h => (Ev.ofBif h (fun h => (Ev.ofSome h)) (fun h => (Ev.ofLen h fun hl h => S_spec_GoodThings_0_9 hl ih2 _ (0 : Nat) _ rfl h)))))))))) (fun h => (Ev.ofNone h)))) (fun h => (Ev.ofBif h (fun h => (Ev.ofSome h)) (fun h => (Ev.ofBind h fun y6 h => (Ev.ofBif h (fun h => (Ev.ofSome h)) (fun h => (Ev.ofLen h fun hl h => S_spec_GoodThings_0_9 hl ih2 _ (0 : Nat) _ rfl h))))))))))))
theorem S_spec_GoodThings (a0 : (List DThing)) {r : Bool} (h : P_spec_GoodThings a0 = some r) : Ev (fun n => F_spec_GoodThings n a0) r := by
  rw [P_spec_GoodThings] at h
  refine Ev.of_eq ?_ (fun n => F_spec_GoodThings_eq n a0)
  exact (Ev.ofBif h (fun h => (Ev.ofSome h)) (fun h => (Ev.ofLen h fun hl h => S_spec_GoodThings_0_4 hl _ (0 : Nat) _ rfl h)))
theorem hcs_spec_GoodThings : ∀ x ∈ cs_spec_GoodThings, CtrOk Try.prog x := (conOf_cons ok_spec_l11Ref (conOf_cons ok_spec_l1Cmp (conOf_cons ok_spec_l11Fields conOf_nil)))
theorem ok_spec_GoodThings : CtrOk Try.prog c_spec_GoodThings := by
  refine ctr_of_run (c := c_spec_GoodThings) (by kernel_rfl : Try.prog.funcs[30]? = some Try.f30) (code := Try.f30.body.getD .skip) (by kernel_rfl) (by kernel_rfl) (by kernel_rfl) (A := A_spec_GoodThings) (I := In_spec_GoodThings) hcs_spec_GoodThings ?_
  rintro ⟨a0, u⟩ y hy
  exact (S_spec_GoodThings a0 hy).get

/-! ## spec.l10GoodHead (31) -/
noncomputable def P_spec_l10GoodHead_1_6 (x1 : Bool) (x2 : Int) (x3 : Bool) (x4 : DHead) : Option Bool :=
  bif x3 then
    bif decide (x4.2.1.1 = 4) then
      Option.bind (P_spec_GoodAtom x4.2.1) fun (y1 : Bool) =>
      bif y1 then
        some (decide (x4.2.2 = ([] : List Int)))
      else
        some false
    else
      some false
  else
    bif decide (x2 = 4) then
      bif @decide (x4.2.1 = (0, 0, ([] : List Int), ([] : List Int))) (Ty.decEq TyAtom x4.2.1 (0, 0, ([] : List Int), ([] : List Int))) then
        Option.bind (P_spec_GoodName x4.2.2) fun (y2 : Bool) =>
        some y2
      else
        some false
    else
      bif decide (x2 = 5) then
        bif decide (x2 = 5) then
          bif x1 then
            bif @decide (x4.2.1 = (0, 0, ([] : List Int), ([] : List Int))) (Ty.decEq TyAtom x4.2.1 (0, 0, ([] : List Int), ([] : List Int))) then
              some (decide (x4.2.2 = ([] : List Int)))
            else
              some false
          else
            some false
        else
          some false
      else
        bif decide (x2 = 6) then
          bif x1 then
            bif @decide (x4.2.1 = (0, 0, ([] : List Int), ([] : List Int))) (Ty.decEq TyAtom x4.2.1 (0, 0, ([] : List Int), ([] : List Int))) then
              some (decide (x4.2.2 = ([] : List Int)))
            else
              some false
          else
            some false
        else
          some false
noncomputable def P_spec_l10GoodHead (a0 : DHead) (a1 : Bool) : Option Bool :=
  bif decide (a0.1 = 1) then
    bif @decide (a0.2.1 = (0, 0, ([] : List Int), ([] : List Int))) (Ty.decEq TyAtom a0.2.1 (0, 0, ([] : List Int), ([] : List Int))) then
      some (decide (a0.2.2 = ([] : List Int)))
    else
      some false
  else
    bif decide (a0.1 = 2) then
      P_spec_l10GoodHead_1_6 a1 a0.1 (decide (a0.1 = 2)) a0
    else
      P_spec_l10GoodHead_1_6 a1 a0.1 (decide (a0.1 = 3)) a0
noncomputable def c_spec_l10GoodHead : Ctr := ⟨31, [TyHead, .bool], [.bool], fun x => P_spec_l10GoodHead x.1 x.2.1⟩
def A_spec_l10GoodHead : List (List Nat × Ann) := [([1, 6], [.keep 0 1, .keep 0 2, .keep 0 6, .keep 0 18, .boxd 0 2 TyHead])]
def In_spec_l10GoodHead : List (List Nat × Nat) := []
noncomputable def cs_spec_l10GoodHead : List Ctr := [c_spec_GoodAtom, c_spec_GoodName]
noncomputable def F_spec_l10GoodHead (n : Nat) (a0 : DHead) (a1 : Bool) : Option Bool := run Try.prog A_spec_l10GoodHead In_spec_l10GoodHead (conOf cs_spec_l10GoodHead) Try.f31 (Try.f31.body.getD .skip) (packT [.bool]) n (argsV [TyHead, .bool] (a0, a1, ()))
noncomputable abbrev L_spec_l10GoodHead_1_6 (n : Nat) (x1 : Bool) (x2 : Int) (x3 : Bool) (x4 : DHead) : Option Bool := lam Try.prog A_spec_l10GoodHead In_spec_l10GoodHead (conOf cs_spec_l10GoodHead) Try.f31 (Try.f31.body.getD .skip) (packT [.bool]) n [1, 6] [.d .bool x1, .ptr 0 2 0, .d I64 x2, .d .bool x3, .agg (explode TyHead x4)]
theorem F_spec_l10GoodHead_eq (n : Nat) (a0 : DHead) (a1 : Bool) : F_spec_l10GoodHead n a0 a1 =
    bif decide (a0.1 = 1) then
      bif @decide (a0.2.1 = (0, 0, ([] : List Int), ([] : List Int))) (Ty.decEq TyAtom a0.2.1 (0, 0, ([] : List Int), ([] : List Int))) then
        some (decide (a0.2.2 = ([] : List Int)))
      else
        some false
    else
      bif decide (a0.1 = 2) then
        L_spec_l10GoodHead_1_6 n a1 a0.1 (decide (a0.1 = 2)) a0
      else
        L_spec_l10GoodHead_1_6 n a1 a0.1 (decide (a0.1 = 3)) a0 := by kernel_rfl
theorem L_spec_l10GoodHead_1_6_eq (n : Nat) (x1 : Bool) (x2 : Int) (x3 : Bool) (x4 : DHead) : L_spec_l10GoodHead_1_6 (n + 1) x1 x2 x3 x4 =
    bif x3 then
      bif decide (x4.2.1.1 = 4) then
        Option.bind (P_spec_GoodAtom x4.2.1) fun (y1 : Bool) =>
        bif y1 then
          some (decide (x4.2.2 = ([] : List Int)))
        else
          some false
      else
        some false
    else
      bif decide (x2 = 4) then
        bif @decide (x4.2.1 = (0, 0, ([] : List Int), ([] : List Int))) (Ty.decEq TyAtom x4.2.1 (0, 0, ([] : List Int), ([] : List Int))) then
          Option.bind (P_spec_GoodName x4.2.2) fun (y2 : Bool) =>
          some y2
        else
          some false
      else
        bif decide (x2 = 5) then
          bif decide (x2 = 5) then
            bif x1 then
              bif @decide (x4.2.1 = (0, 0, ([] : List Int), ([] : List Int))) (Ty.decEq TyAtom x4.2.1 (0, 0, ([] : List Int), ([] : List Int))) then
                some (decide (x4.2.2 = ([] : List Int)))
              else
                some false
            else
              some false
          else
            some false
        else
          bif decide (x2 = 6) then
            bif x1 then
              bif @decide (x4.2.1 = (0, 0, ([] : List Int), ([] : List Int))) (Ty.decEq TyAtom x4.2.1 (0, 0, ([] : List Int), ([] : List Int))) then
                some (decide (x4.2.2 = ([] : List Int)))
              else
                some false
            else
              some false
          else
            some false := by kernel_rfl
theorem S_spec_l10GoodHead_1_6 {x1 : Bool} {x2 : Int} {x3 : Bool} {x4 : DHead} {r : Bool} (h : P_spec_l10GoodHead_1_6 x1 x2 x3 x4 = some r) : Ev (fun n => L_spec_l10GoodHead_1_6 n x1 x2 x3 x4) r := by
  rw [P_spec_l10GoodHead_1_6] at h
  refine Ev.step ?_ (fun n => L_spec_l10GoodHead_1_6_eq n x1 x2 x3 x4)
  exact (Ev.ofBif h (fun h => (Ev.ofBif h (fun h => (Ev.ofBind h fun y1 h => (Ev.ofBif h (fun h => (Ev.ofSome h)) (fun h => (Ev.ofSome h))))) (fun h => (Ev.ofSome h)))) (fun h => (Ev.ofBif h (fun h => (Ev.ofBif h (fun h => (Ev.ofBind h fun y2 h => (Ev.ofSome h))) (fun h => (Ev.ofSome h)))) (fun h => (Ev.ofBif h (fun h => (Ev.ofBif h (fun h => (Ev.ofBif h (fun h => (Ev.ofBif h (fun h => (Ev.ofSome h)) (fun h => (Ev.ofSome h)))) (fun h => (Ev.ofSome h)))) (fun h => (Ev.ofSome h)))) (fun h => (Ev.ofBif h (fun h => (Ev.ofBif h (fun h => (Ev.ofBif h (fun h => (Ev.ofSome h)) (fun h => (Ev.ofSome h)))) (fun h => (Ev.ofSome h)))) (fun h => (Ev.ofSome h)))))))))
theorem S_spec_l10GoodHead (a0 : DHead) (a1 : Bool) {r : Bool} (h : P_spec_l10GoodHead a0 a1 = some r) : Ev (fun n => F_spec_l10GoodHead n a0 a1) r := by
  rw [P_spec_l10GoodHead] at h
  refine Ev.of_eq ?_ (fun n => F_spec_l10GoodHead_eq n a0 a1)
  exact (Ev.ofBif h (fun h => (Ev.ofBif h (fun h => (Ev.ofSome h)) (fun h => (Ev.ofSome h)))) (fun h => (Ev.ofBif h (fun h => (S_spec_l10GoodHead_1_6 h)) (fun h => (S_spec_l10GoodHead_1_6 h)))))
theorem hcs_spec_l10GoodHead : ∀ x ∈ cs_spec_l10GoodHead, CtrOk Try.prog x := (conOf_cons ok_spec_GoodAtom (conOf_cons ok_spec_GoodName conOf_nil))
theorem ok_spec_l10GoodHead : CtrOk Try.prog c_spec_l10GoodHead := by
  refine ctr_of_run (c := c_spec_l10GoodHead) (by kernel_rfl : Try.prog.funcs[31]? = some Try.f31) (code := Try.f31.body.getD .skip) (by kernel_rfl) (by kernel_rfl) (by kernel_rfl) (A := A_spec_l10GoodHead) (I := In_spec_l10GoodHead) hcs_spec_l10GoodHead ?_
  rintro ⟨a0, a1, u⟩ y hy
  exact (S_spec_l10GoodHead a0 a1 hy).get

/-! ## spec.l11Thing (137) -/
noncomputable def P_spec_l11Thing_0_2 (x4 : DAtom) : List DThing → Option (DThing × Bool)
  | [] =>
      some (((0, 0, ([] : List Int), ([] : List Int)), [], [], []), false)
  | e :: rest =>
      bif @decide (((e).1) = x4) (Ty.decEq TyAtom ((e).1) x4) then
        some ((((e).1), ((e).2)), true)
      else
        P_spec_l11Thing_0_2 x4 rest
noncomputable def P_spec_l11Thing (a0 : (List DThing)) (a1 : DAtom) : Option (DThing × Bool) :=
  lenOk a0 (P_spec_l11Thing_0_2 a1 a0)
noncomputable def c_spec_l11Thing : Ctr := ⟨137, [(.list TyThing), TyAtom], [TyThing, .bool], fun x => P_spec_l11Thing x.1 x.2.1⟩
def A_spec_l11Thing : List (List Nat × Ann) := [([0, 2], [.keep 0 3, .keep 0 4, .keep 0 8, .keep 0 9, .keep 0 10, .boxd 0 3 TyAtom, .boxd 0 4 TyThing])]
def In_spec_l11Thing : List (List Nat × Nat) := []
noncomputable def cs_spec_l11Thing : List Ctr := []
noncomputable def F_spec_l11Thing (n : Nat) (a0 : (List DThing)) (a1 : DAtom) : Option (DThing × Bool) := run Try.prog A_spec_l11Thing In_spec_l11Thing (conOf cs_spec_l11Thing) Try.f137 (Try.f137.body.getD .skip) (packT [TyThing, .bool]) n (argsV [(.list TyThing), TyAtom] (a0, a1, ()))
noncomputable abbrev L_spec_l11Thing_0_2 (n : Nat) (x1 : (List DThing)) (x2 : Int) (x3 : Int) (x4 : DAtom) (x5 : DThing) : Option (DThing × Bool) := lam Try.prog A_spec_l11Thing In_spec_l11Thing (conOf cs_spec_l11Thing) Try.f137 (Try.f137.body.getD .skip) (packT [TyThing, .bool]) n [0, 2] [.ptr 0 3 0, .ptr 0 4 0, .d (.list TyThing) x1, .d I64 x2, .d I64 x3, .agg (explode TyAtom x4), .agg (explode TyThing x5)]
theorem F_spec_l11Thing_eq (n : Nat) (a0 : (List DThing)) (a1 : DAtom) : F_spec_l11Thing n a0 a1 =
    L_spec_l11Thing_0_2 n a0 (a0.length : Int) 0 a1 ((0, 0, ([] : List Int), ([] : List Int)), [], [], []) := by kernel_rfl
theorem L_spec_l11Thing_0_2_eq (n : Nat) (x1 : (List DThing)) (x2 : Int) (x3 : Int) (x4 : DAtom) (x5 : DThing) : L_spec_l11Thing_0_2 (n + 1) x1 x2 x3 x4 x5 =
    bif decide (x3 < x2) then
      bif inB x3 x1.length then
        bif @decide (((rd x1 x3 (Ty.dflt TyThing)).1) = x4) (Ty.decEq TyAtom ((rd x1 x3 (Ty.dflt TyThing)).1) x4) then
          some ((((rd x1 x3 (Ty.dflt TyThing)).1), ((rd x1 x3 (Ty.dflt TyThing)).2)), true)
        else
          L_spec_l11Thing_0_2 n x1 x2 (IntKind.wrap .i64 (x3 + 1)) x4 x5
      else none
    else
      some (((0, 0, ([] : List Int), ([] : List Int)), [], [], []), false) := by kernel_rfl
theorem S_spec_l11Thing_0_2 {x1 : (List DThing)} {x4 : DAtom} {x5 : DThing} (hl : x1.length ≤ maxLen) : ∀ (rest : List DThing) (k : Nat) (r : (DThing × Bool)), rest = x1.drop k → P_spec_l11Thing_0_2 x4 rest = some r → Ev (fun n => L_spec_l11Thing_0_2 n x1 (x1.length : Int) (k : Int) x4 x5) r := by
  intro rest
  induction rest with
  | nil =>
    intro k r hr h
    have hk := drop_nil hr
    rw [P_spec_l11Thing_0_2] at h
    refine Ev.step ?_ (fun n => L_spec_l11Thing_0_2_eq n x1 (x1.length : Int) (k : Int) x4 x5)
    rw [show decide ((k : Int) < (x1.length : Int)) = false from decide_eq_false (by omega)]
    exact Ev.neg rfl (Ev.ofSome h)
  | cons e rest ih =>
    intro k r hr h
    obtain ⟨hk, hx, hr2⟩ := drop_cons (d := (Ty.dflt TyThing)) hr
    have hw := wrap_succ hl hk
    have ih2 : ∀ (r : (DThing × Bool)), P_spec_l11Thing_0_2 x4 rest = some r → Ev (fun n => L_spec_l11Thing_0_2 n x1 (x1.length : Int) (IntKind.wrap .i64 ((k : Int) + 1)) x4 x5) r := by
      intro r h; rw [hw]; exact ih (k + 1) r hr2 h
    rw [P_spec_l11Thing_0_2] at h
    refine Ev.step ?_ (fun n => L_spec_l11Thing_0_2_eq n x1 (x1.length : Int) (k : Int) x4 x5)
    rw [show decide ((k : Int) < (x1.length : Int)) = true from decide_eq_true (by omega), inB_nat2 hk, hx]
    exact Ev.pos rfl (Ev.pos rfl (Ev.ofBif h (fun h => (Ev.ofSome h)) (fun h => (ih2  _ h))))
theorem S_spec_l11Thing (a0 : (List DThing)) (a1 : DAtom) {r : (DThing × Bool)} (h : P_spec_l11Thing a0 a1 = some r) : Ev (fun n => F_spec_l11Thing n a0 a1) r := by
  rw [P_spec_l11Thing] at h
  refine Ev.of_eq ?_ (fun n => F_spec_l11Thing_eq n a0 a1)
  exact (Ev.ofLen h fun hl h => S_spec_l11Thing_0_2 hl _ (0 : Nat) _ rfl h)
theorem hcs_spec_l11Thing : ∀ x ∈ cs_spec_l11Thing, CtrOk Try.prog x := conOf_nil
theorem ok_spec_l11Thing : CtrOk Try.prog c_spec_l11Thing := by
  refine ctr_of_run (c := c_spec_l11Thing) (by kernel_rfl : Try.prog.funcs[137]? = some Try.f137) (code := Try.f137.body.getD .skip) (by kernel_rfl) (by kernel_rfl) (by kernel_rfl) (A := A_spec_l11Thing) (I := In_spec_l11Thing) hcs_spec_l11Thing ?_
  rintro ⟨a0, a1, u⟩ y hy
  exact (S_spec_l11Thing a0 a1 hy).get

/-! ## spec.l12Has (83) -/
noncomputable def P_spec_l12Has_0_2 (x4 : DAtom) : List DAtom → Option Bool
  | [] =>
      some false
  | e :: rest =>
      bif @decide ((e) = x4) (Ty.decEq TyAtom (e) x4) then
        some true
      else
        P_spec_l12Has_0_2 x4 rest
noncomputable def P_spec_l12Has (a0 : (List DAtom)) (a1 : DAtom) : Option Bool :=
  lenOk a0 (P_spec_l12Has_0_2 a1 a0)
noncomputable def c_spec_l12Has : Ctr := ⟨83, [(.list TyAtom), TyAtom], [.bool], fun x => P_spec_l12Has x.1 x.2.1⟩
def A_spec_l12Has : List (List Nat × Ann) := [([0, 2], [.keep 0 3, .keep 0 7, .keep 0 8, .keep 0 9, .boxd 0 3 TyAtom])]
def In_spec_l12Has : List (List Nat × Nat) := []
noncomputable def cs_spec_l12Has : List Ctr := []
noncomputable def F_spec_l12Has (n : Nat) (a0 : (List DAtom)) (a1 : DAtom) : Option Bool := run Try.prog A_spec_l12Has In_spec_l12Has (conOf cs_spec_l12Has) Try.f83 (Try.f83.body.getD .skip) (packT [.bool]) n (argsV [(.list TyAtom), TyAtom] (a0, a1, ()))
noncomputable abbrev L_spec_l12Has_0_2 (n : Nat) (x1 : (List DAtom)) (x2 : Int) (x3 : Int) (x4 : DAtom) : Option Bool := lam Try.prog A_spec_l12Has In_spec_l12Has (conOf cs_spec_l12Has) Try.f83 (Try.f83.body.getD .skip) (packT [.bool]) n [0, 2] [.ptr 0 3 0, .d (.list TyAtom) x1, .d I64 x2, .d I64 x3, .agg (explode TyAtom x4)]
theorem F_spec_l12Has_eq (n : Nat) (a0 : (List DAtom)) (a1 : DAtom) : F_spec_l12Has n a0 a1 =
    L_spec_l12Has_0_2 n a0 (a0.length : Int) 0 a1 := by kernel_rfl
theorem L_spec_l12Has_0_2_eq (n : Nat) (x1 : (List DAtom)) (x2 : Int) (x3 : Int) (x4 : DAtom) : L_spec_l12Has_0_2 (n + 1) x1 x2 x3 x4 =
    bif decide (x3 < x2) then
      bif inB x3 x1.length then
        bif @decide ((rd x1 x3 (Ty.dflt TyAtom)) = x4) (Ty.decEq TyAtom (rd x1 x3 (Ty.dflt TyAtom)) x4) then
          some true
        else
          L_spec_l12Has_0_2 n x1 x2 (IntKind.wrap .i64 (x3 + 1)) x4
      else none
    else
      some false := by kernel_rfl
theorem S_spec_l12Has_0_2 {x1 : (List DAtom)} {x4 : DAtom} (hl : x1.length ≤ maxLen) : ∀ (rest : List DAtom) (k : Nat) (r : Bool), rest = x1.drop k → P_spec_l12Has_0_2 x4 rest = some r → Ev (fun n => L_spec_l12Has_0_2 n x1 (x1.length : Int) (k : Int) x4) r := by
  intro rest
  induction rest with
  | nil =>
    intro k r hr h
    have hk := drop_nil hr
    rw [P_spec_l12Has_0_2] at h
    refine Ev.step ?_ (fun n => L_spec_l12Has_0_2_eq n x1 (x1.length : Int) (k : Int) x4)
    rw [show decide ((k : Int) < (x1.length : Int)) = false from decide_eq_false (by omega)]
    exact Ev.neg rfl (Ev.ofSome h)
  | cons e rest ih =>
    intro k r hr h
    obtain ⟨hk, hx, hr2⟩ := drop_cons (d := (Ty.dflt TyAtom)) hr
    have hw := wrap_succ hl hk
    have ih2 : ∀ (r : Bool), P_spec_l12Has_0_2 x4 rest = some r → Ev (fun n => L_spec_l12Has_0_2 n x1 (x1.length : Int) (IntKind.wrap .i64 ((k : Int) + 1)) x4) r := by
      intro r h; rw [hw]; exact ih (k + 1) r hr2 h
    rw [P_spec_l12Has_0_2] at h
    refine Ev.step ?_ (fun n => L_spec_l12Has_0_2_eq n x1 (x1.length : Int) (k : Int) x4)
    rw [show decide ((k : Int) < (x1.length : Int)) = true from decide_eq_true (by omega), inB_nat2 hk, hx]
    exact Ev.pos rfl (Ev.pos rfl (Ev.ofBif h (fun h => (Ev.ofSome h)) (fun h => (ih2  _ h))))
theorem S_spec_l12Has (a0 : (List DAtom)) (a1 : DAtom) {r : Bool} (h : P_spec_l12Has a0 a1 = some r) : Ev (fun n => F_spec_l12Has n a0 a1) r := by
  rw [P_spec_l12Has] at h
  refine Ev.of_eq ?_ (fun n => F_spec_l12Has_eq n a0 a1)
  exact (Ev.ofLen h fun hl h => S_spec_l12Has_0_2 hl _ (0 : Nat) _ rfl h)
theorem hcs_spec_l12Has : ∀ x ∈ cs_spec_l12Has, CtrOk Try.prog x := conOf_nil
theorem ok_spec_l12Has : CtrOk Try.prog c_spec_l12Has := by
  refine ctr_of_run (c := c_spec_l12Has) (by kernel_rfl : Try.prog.funcs[83]? = some Try.f83) (code := Try.f83.body.getD .skip) (by kernel_rfl) (by kernel_rfl) (by kernel_rfl) (A := A_spec_l12Has) (I := In_spec_l12Has) hcs_spec_l12Has ?_
  rintro ⟨a0, a1, u⟩ y hy
  exact (S_spec_l12Has a0 a1 hy).get

/-! ## spec.l1Sorted (138) -/
noncomputable def P_spec_l1Sorted_0_11 (K0 : (List DAtom) → Option (List DAtom)) (x2 : Int) (x7 : DAtom) : Nat → (List DAtom) → Int → Option (List DAtom)
  | 0, _, _ => none
  | m + 1, x1, x3 =>
      bif decide (x2 < x3) then
        bif inB (IntKind.wrap .i64 (x3 - 1)) x1.length then
          bif inB (IntKind.wrap .i64 (x3 - 1)) x1.length then
            bif inB x3 x1.length then
              bif inB x3 x1.length && true && true && true && true then
                P_spec_l1Sorted_0_11 K0 x2 x7 m (x1.set (Int.toNat x3) (rd x1 (IntKind.wrap .i64 (x3 - 1)) (Ty.dflt TyAtom))) (IntKind.wrap .i64 (x3 - 1))
              else none
            else none
          else none
        else none
      else
        bif inB x2 x1.length then
          bif inB x2 x1.length && true && true && true && true then
            K0 (x1.set (Int.toNat x2) x7)
          else none
        else none
noncomputable def P_spec_l1Sorted_1_8 (K0 : (List DAtom) → Option (List DAtom)) (m : Nat) (x1 : (List DAtom)) (x2 : Int) (x6 : DAtom) : Option (List DAtom) :=
  bif decide ((0 : Int) < x2) then
    bif inB (IntKind.wrap .i64 (x2 - 1)) x1.length then
      bif inB (IntKind.wrap .i64 (x2 - 1)) x1.length then
        Option.bind (P_spec_l1Cmp (rd x1 (IntKind.wrap .i64 (x2 - 1)) (Ty.dflt TyAtom)) x6) fun (y2 : Int) =>
        bif decide (y2 = 0) then
          K0 x1
        else
          bif decide (((x1.length : Int) + (([x6] : List DAtom).length : Int)) * 48 ≤ room) && decide ((x1.length : Int) + (([x6] : List DAtom).length : Int) ≤ room) then
            P_spec_l1Sorted_0_11 K0 x2 x6 m (x1 ++ ([x6] : List DAtom)) (IntKind.wrap .i64 (((x1 ++ ([x6] : List DAtom)).length : Int) - 1))
          else none
      else none
    else none
  else
    bif decide (((x1.length : Int) + (([x6] : List DAtom).length : Int)) * 48 ≤ room) && decide ((x1.length : Int) + (([x6] : List DAtom).length : Int) ≤ room) then
      P_spec_l1Sorted_0_11 K0 x2 x6 m (x1 ++ ([x6] : List DAtom)) (IntKind.wrap .i64 (((x1 ++ ([x6] : List DAtom)).length : Int) - 1))
    else none
noncomputable def P_spec_l1Sorted_0_6 (K0 : (List DAtom) → Option (List DAtom)) (x1 : (List DAtom)) (x6 : DAtom) : Nat → Int → Option (List DAtom)
  | 0, _ => none
  | m + 1, x2 =>
      bif decide ((0 : Int) < x2) then
        bif inB (IntKind.wrap .i64 (x2 - 1)) x1.length then
          bif inB (IntKind.wrap .i64 (x2 - 1)) x1.length then
            Option.bind (P_spec_l1Cmp (rd x1 (IntKind.wrap .i64 (x2 - 1)) (Ty.dflt TyAtom)) x6) fun (y1 : Int) =>
            bif decide ((0 : Int) < y1) then
              P_spec_l1Sorted_0_6 K0 x1 x6 m (IntKind.wrap .i64 (x2 - 1))
            else
              P_spec_l1Sorted_1_8 K0 m x1 x2 x6
          else none
        else none
      else
        P_spec_l1Sorted_1_8 K0 m x1 x2 x6
noncomputable def P_spec_l1Sorted_0_3 (m : Nat) : List DAtom → (List DAtom) → Option (List DAtom)
  | [], x1 =>
      some x1
  | e :: rest, x1 =>
      P_spec_l1Sorted_0_6 (fun s0 => P_spec_l1Sorted_0_3 m rest s0) x1 (e) m (x1.length : Int)
noncomputable def P_spec_l1Sorted (m : Nat) (a0 : (List DAtom)) : Option (List DAtom) :=
  lenOk a0 (P_spec_l1Sorted_0_3 m a0 [])
noncomputable def E_spec_l1Sorted (a0 : (List DAtom)) : Option (List DAtom) := evOpt fun m => P_spec_l1Sorted m a0
noncomputable def c_spec_l1Sorted : Ctr := ⟨138, [(.list TyAtom)], [(.list TyAtom)], fun x => E_spec_l1Sorted x.1⟩
def A_spec_l1Sorted : List (List Nat × Ann) := [([0, 3], [.raw 0 3 TyAtom, .keep 0 8, .keep 0 9, .keep 0 10]), ([0, 6], [.raw 0 3 TyAtom, .keep 0 5, .keep 0 6, .keep 0 8, .keep 0 9, .keep 0 10, .boxd 0 5 TyAtom]), ([1, 8], [.raw 0 3 TyAtom, .keep 0 5, .keep 0 6, .keep 0 8, .keep 0 9, .keep 0 10, .boxd 0 5 TyAtom]), ([0, 11], [.raw 0 3 TyAtom, .keep 0 5, .keep 0 6, .keep 0 7, .keep 0 8, .keep 0 9, .keep 0 10, .boxd 0 5 TyAtom])]
def In_spec_l1Sorted : List (List Nat × Nat) := []
noncomputable def cs_spec_l1Sorted : List Ctr := [c_spec_l1Cmp]
noncomputable def F_spec_l1Sorted (n : Nat) (a0 : (List DAtom)) : Option (List DAtom) := run Try.prog A_spec_l1Sorted In_spec_l1Sorted (conOf cs_spec_l1Sorted) Try.f138 (Try.f138.body.getD .skip) (packT [(.list TyAtom)]) n (argsV [(.list TyAtom)] (a0, ()))
noncomputable abbrev L_spec_l1Sorted_0_3 (n : Nat) (x1 : (List DAtom)) (x2 : (List DAtom)) (x3 : Int) (x4 : Int) : Option (List DAtom) := lam Try.prog A_spec_l1Sorted In_spec_l1Sorted (conOf cs_spec_l1Sorted) Try.f138 (Try.f138.body.getD .skip) (packT [(.list TyAtom)]) n [0, 3] [.own 0 TyAtom x1, .d (.list TyAtom) x2, .d I64 x3, .d I64 x4]
noncomputable abbrev L_spec_l1Sorted_0_6 (n : Nat) (x1 : (List DAtom)) (x2 : Int) (x3 : (List DAtom)) (x4 : Int) (x5 : Int) (x6 : DAtom) : Option (List DAtom) := lam Try.prog A_spec_l1Sorted In_spec_l1Sorted (conOf cs_spec_l1Sorted) Try.f138 (Try.f138.body.getD .skip) (packT [(.list TyAtom)]) n [0, 6] [.own 0 TyAtom x1, .ptr 0 5 0, .d I64 x2, .d (.list TyAtom) x3, .d I64 x4, .d I64 x5, .agg (explode TyAtom x6)]
noncomputable abbrev L_spec_l1Sorted_1_8 (n : Nat) (x1 : (List DAtom)) (x2 : Int) (x3 : (List DAtom)) (x4 : Int) (x5 : Int) (x6 : DAtom) : Option (List DAtom) := lam Try.prog A_spec_l1Sorted In_spec_l1Sorted (conOf cs_spec_l1Sorted) Try.f138 (Try.f138.body.getD .skip) (packT [(.list TyAtom)]) n [1, 8] [.own 0 TyAtom x1, .ptr 0 5 0, .d I64 x2, .d (.list TyAtom) x3, .d I64 x4, .d I64 x5, .agg (explode TyAtom x6)]
noncomputable abbrev L_spec_l1Sorted_0_11 (n : Nat) (x1 : (List DAtom)) (x2 : Int) (x3 : Int) (x4 : (List DAtom)) (x5 : Int) (x6 : Int) (x7 : DAtom) : Option (List DAtom) := lam Try.prog A_spec_l1Sorted In_spec_l1Sorted (conOf cs_spec_l1Sorted) Try.f138 (Try.f138.body.getD .skip) (packT [(.list TyAtom)]) n [0, 11] [.own 0 TyAtom x1, .ptr 0 5 0, .d I64 x2, .d I64 x3, .d (.list TyAtom) x4, .d I64 x5, .d I64 x6, .agg (explode TyAtom x7)]
theorem F_spec_l1Sorted_eq (n : Nat) (a0 : (List DAtom)) : F_spec_l1Sorted n a0 =
    L_spec_l1Sorted_0_3 n [] a0 (a0.length : Int) 0 := by kernel_rfl
theorem L_spec_l1Sorted_0_3_eq (n : Nat) (x1 : (List DAtom)) (x2 : (List DAtom)) (x3 : Int) (x4 : Int) : L_spec_l1Sorted_0_3 (n + 1) x1 x2 x3 x4 =
    bif decide (x4 < x3) then
      bif inB x4 x2.length then
        L_spec_l1Sorted_0_6 n x1 (x1.length : Int) x2 x3 x4 (rd x2 x4 (Ty.dflt TyAtom))
      else none
    else
      some x1 := by kernel_rfl
theorem L_spec_l1Sorted_0_6_eq (n : Nat) (x1 : (List DAtom)) (x2 : Int) (x3 : (List DAtom)) (x4 : Int) (x5 : Int) (x6 : DAtom) : L_spec_l1Sorted_0_6 (n + 1) x1 x2 x3 x4 x5 x6 =
    bif decide ((0 : Int) < x2) then
      bif inB (IntKind.wrap .i64 (x2 - 1)) x1.length then
        bif inB (IntKind.wrap .i64 (x2 - 1)) x1.length then
          Option.bind (P_spec_l1Cmp (rd x1 (IntKind.wrap .i64 (x2 - 1)) (Ty.dflt TyAtom)) x6) fun (y1 : Int) =>
          bif decide ((0 : Int) < y1) then
            L_spec_l1Sorted_0_6 n x1 (IntKind.wrap .i64 (x2 - 1)) x3 x4 x5 x6
          else
            L_spec_l1Sorted_1_8 n x1 x2 x3 x4 x5 x6
        else none
      else none
    else
      L_spec_l1Sorted_1_8 n x1 x2 x3 x4 x5 x6 := by kernel_rfl
theorem L_spec_l1Sorted_1_8_eq (n : Nat) (x1 : (List DAtom)) (x2 : Int) (x3 : (List DAtom)) (x4 : Int) (x5 : Int) (x6 : DAtom) : L_spec_l1Sorted_1_8 (n + 1) x1 x2 x3 x4 x5 x6 =
    bif decide ((0 : Int) < x2) then
      bif inB (IntKind.wrap .i64 (x2 - 1)) x1.length then
        bif inB (IntKind.wrap .i64 (x2 - 1)) x1.length then
          Option.bind (P_spec_l1Cmp (rd x1 (IntKind.wrap .i64 (x2 - 1)) (Ty.dflt TyAtom)) x6) fun (y2 : Int) =>
          bif decide (y2 = 0) then
            L_spec_l1Sorted_0_3 n x1 x3 x4 (IntKind.wrap .i64 (x5 + 1))
          else
            bif decide (((x1.length : Int) + (([x6] : List DAtom).length : Int)) * 48 ≤ room) && decide ((x1.length : Int) + (([x6] : List DAtom).length : Int) ≤ room) then
              L_spec_l1Sorted_0_11 n (x1 ++ ([x6] : List DAtom)) x2 (IntKind.wrap .i64 (((x1 ++ ([x6] : List DAtom)).length : Int) - 1)) x3 x4 x5 x6
            else none
        else none
      else none
    else
      bif decide (((x1.length : Int) + (([x6] : List DAtom).length : Int)) * 48 ≤ room) && decide ((x1.length : Int) + (([x6] : List DAtom).length : Int) ≤ room) then
        L_spec_l1Sorted_0_11 n (x1 ++ ([x6] : List DAtom)) x2 (IntKind.wrap .i64 (((x1 ++ ([x6] : List DAtom)).length : Int) - 1)) x3 x4 x5 x6
      else none := by kernel_rfl
theorem L_spec_l1Sorted_0_11_eq (n : Nat) (x1 : (List DAtom)) (x2 : Int) (x3 : Int) (x4 : (List DAtom)) (x5 : Int) (x6 : Int) (x7 : DAtom) : L_spec_l1Sorted_0_11 (n + 1) x1 x2 x3 x4 x5 x6 x7 =
    bif decide (x2 < x3) then
      bif inB (IntKind.wrap .i64 (x3 - 1)) x1.length then
        bif inB (IntKind.wrap .i64 (x3 - 1)) x1.length then
          bif inB x3 x1.length then
            bif inB x3 x1.length && true && true && true && true then
              L_spec_l1Sorted_0_11 n (x1.set (Int.toNat x3) (rd x1 (IntKind.wrap .i64 (x3 - 1)) (Ty.dflt TyAtom))) x2 (IntKind.wrap .i64 (x3 - 1)) x4 x5 x6 x7
            else none
          else none
        else none
      else none
    else
      bif inB x2 x1.length then
        bif inB x2 x1.length && true && true && true && true then
          L_spec_l1Sorted_0_3 n (x1.set (Int.toNat x2) x7) x4 x5 (IntKind.wrap .i64 (x6 + 1))
        else none
      else none := by kernel_rfl
theorem S_spec_l1Sorted_0_11 {K0 : (List DAtom) → Option (List DAtom)} {x2 : Int} {x4 : (List DAtom)} {x5 : Int} {x6 : Int} {x7 : DAtom} (hK0 : ∀ (z1 : (List DAtom)) (r : (List DAtom)), K0 z1 = some r → Ev (fun n => L_spec_l1Sorted_0_3 n z1 x4 x5 (IntKind.wrap .i64 (x6 + 1))) r) : ∀ (m : Nat) (x1 : (List DAtom)) (x3 : Int) (r : (List DAtom)), P_spec_l1Sorted_0_11 K0 x2 x7 m x1 x3 = some r → Ev (fun n => L_spec_l1Sorted_0_11 n x1 x2 x3 x4 x5 x6 x7) r := by
  intro m
  induction m with
  | zero => intro x1 x3 r h; rw [P_spec_l1Sorted_0_11] at h; exact Ev.ofNone h
  | succ m ih2 =>
    intro x1 x3 r h
    rw [P_spec_l1Sorted_0_11] at h
    refine Ev.step ?_ (fun n => L_spec_l1Sorted_0_11_eq n x1 x2 x3 x4 x5 x6 x7)
    exact (Ev.ofBif h (fun h => (Ev.ofBif h (fun h => (Ev.ofBif h (fun h => (Ev.ofBif h (fun h => (Ev.ofBif h (fun h => (ih2 _ _ _ h)) (fun h => (Ev.ofNone h)))) (fun h => (Ev.ofNone h)))) (fun h => (Ev.ofNone h)))) (fun h => (Ev.ofNone h)))) (fun h => (Ev.ofBif h (fun h => (Ev.ofBif h (fun h => (hK0 _ _ h)) (fun h => (Ev.ofNone h)))) (fun h => (Ev.ofNone h)))))
theorem S_spec_l1Sorted_1_8 {K0 : (List DAtom) → Option (List DAtom)} {m : Nat} {x1 : (List DAtom)} {x2 : Int} {x3 : (List DAtom)} {x4 : Int} {x5 : Int} {x6 : DAtom} (hK0 : ∀ (z1 : (List DAtom)) (r : (List DAtom)), K0 z1 = some r → Ev (fun n => L_spec_l1Sorted_0_3 n z1 x3 x4 (IntKind.wrap .i64 (x5 + 1))) r) {r : (List DAtom)} (h : P_spec_l1Sorted_1_8 K0 m x1 x2 x6 = some r) : Ev (fun n => L_spec_l1Sorted_1_8 n x1 x2 x3 x4 x5 x6) r := by
  rw [P_spec_l1Sorted_1_8] at h
  refine Ev.step ?_ (fun n => L_spec_l1Sorted_1_8_eq n x1 x2 x3 x4 x5 x6)
  exact (Ev.ofBif h (fun h => (Ev.ofBif h (fun h => (Ev.ofBif h (fun h => (Ev.ofBind h fun y2 h => (Ev.ofBif h (fun h => (hK0 _ _ h)) (fun h => (Ev.ofBif h (fun h => (S_spec_l1Sorted_0_11 hK0 _ _ _ _ h)) (fun h => (Ev.ofNone h))))))) (fun h => (Ev.ofNone h)))) (fun h => (Ev.ofNone h)))) (fun h => (Ev.ofBif h (fun h => (S_spec_l1Sorted_0_11 hK0 _ _ _ _ h)) (fun h => (Ev.ofNone h)))))
theorem S_spec_l1Sorted_0_6 {K0 : (List DAtom) → Option (List DAtom)} {x1 : (List DAtom)} {x3 : (List DAtom)} {x4 : Int} {x5 : Int} {x6 : DAtom} (hK0 : ∀ (z1 : (List DAtom)) (r : (List DAtom)), K0 z1 = some r → Ev (fun n => L_spec_l1Sorted_0_3 n z1 x3 x4 (IntKind.wrap .i64 (x5 + 1))) r) : ∀ (m : Nat) (x2 : Int) (r : (List DAtom)), P_spec_l1Sorted_0_6 K0 x1 x6 m x2 = some r → Ev (fun n => L_spec_l1Sorted_0_6 n x1 x2 x3 x4 x5 x6) r := by
  intro m
  induction m with
  | zero => intro x2 r h; rw [P_spec_l1Sorted_0_6] at h; exact Ev.ofNone h
  | succ m ih2 =>
    intro x2 r h
    rw [P_spec_l1Sorted_0_6] at h
    refine Ev.step ?_ (fun n => L_spec_l1Sorted_0_6_eq n x1 x2 x3 x4 x5 x6)
    exact (Ev.ofBif h (fun h => (Ev.ofBif h (fun h => (Ev.ofBif h (fun h => (Ev.ofBind h fun y1 h => (Ev.ofBif h (fun h => (ih2 _ _ h)) (fun h => (S_spec_l1Sorted_1_8 hK0 h))))) (fun h => (Ev.ofNone h)))) (fun h => (Ev.ofNone h)))) (fun h => (S_spec_l1Sorted_1_8 hK0 h)))
theorem S_spec_l1Sorted_0_3 {m : Nat} {x2 : (List DAtom)} (hl : x2.length ≤ maxLen) : ∀ (rest : List DAtom) (k : Nat) (x1 : (List DAtom)) (r : (List DAtom)), rest = x2.drop k → P_spec_l1Sorted_0_3 m rest x1 = some r → Ev (fun n => L_spec_l1Sorted_0_3 n x1 x2 (x2.length : Int) (k : Int)) r := by
  intro rest
  induction rest with
  | nil =>
    intro k x1 r hr h
    have hk := drop_nil hr
    rw [P_spec_l1Sorted_0_3] at h
    refine Ev.step ?_ (fun n => L_spec_l1Sorted_0_3_eq n x1 x2 (x2.length : Int) (k : Int))
    rw [show decide ((k : Int) < (x2.length : Int)) = false from decide_eq_false (by omega)]
    exact Ev.neg rfl (Ev.ofSome h)
  | cons e rest ih =>
    intro k x1 r hr h
    obtain ⟨hk, hx, hr2⟩ := drop_cons (d := (Ty.dflt TyAtom)) hr
    have hw := wrap_succ hl hk
    have ih2 : ∀ (z1 : (List DAtom)) (r : (List DAtom)), P_spec_l1Sorted_0_3 m rest z1 = some r → Ev (fun n => L_spec_l1Sorted_0_3 n z1 x2 (x2.length : Int) (IntKind.wrap .i64 ((k : Int) + 1))) r := by
      intro z1 r h; rw [hw]; exact ih (k + 1) z1 r hr2 h
    rw [P_spec_l1Sorted_0_3] at h
    refine Ev.step ?_ (fun n => L_spec_l1Sorted_0_3_eq n x1 x2 (x2.length : Int) (k : Int))
    rw [show decide ((k : Int) < (x2.length : Int)) = true from decide_eq_true (by omega), inB_nat2 hk, hx]
    exact Ev.pos rfl (Ev.pos rfl (S_spec_l1Sorted_0_6 ih2 _ _ _ h))
theorem S_spec_l1Sorted {m : Nat} (a0 : (List DAtom)) {r : (List DAtom)} (h : P_spec_l1Sorted m a0 = some r) : Ev (fun n => F_spec_l1Sorted n a0) r := by
  rw [P_spec_l1Sorted] at h
  refine Ev.of_eq ?_ (fun n => F_spec_l1Sorted_eq n a0)
  exact (Ev.ofLen h fun hl h => S_spec_l1Sorted_0_3 hl _ (0 : Nat) _ _ rfl h)
theorem hcs_spec_l1Sorted : ∀ x ∈ cs_spec_l1Sorted, CtrOk Try.prog x := (conOf_cons ok_spec_l1Cmp conOf_nil)
theorem ok_spec_l1Sorted : CtrOk Try.prog c_spec_l1Sorted := by
  refine ctr_of_run (c := c_spec_l1Sorted) (by kernel_rfl : Try.prog.funcs[138]? = some Try.f138) (code := Try.f138.body.getD .skip) (by kernel_rfl) (by kernel_rfl) (by kernel_rfl) (A := A_spec_l1Sorted) (I := In_spec_l1Sorted) hcs_spec_l1Sorted ?_
  rintro ⟨a0, u⟩ y hy
  exact let ⟨_, h⟩ := (evOpt_get hy).get; (S_spec_l1Sorted a0 h).get

/-! ## spec.l12Up (84) -/
noncomputable def P_spec_l12Up_0_7 (K0 : (List DAtom) → Int → Option (List DAtom)) (x3 : Int) : List DAtom → (List DAtom) → Option (List DAtom)
  | [], x2 =>
      K0 x2 (IntKind.wrap .i64 (x3 + 1))
  | e :: rest, x2 =>
      Option.bind (P_spec_l12Has x2 (e)) fun (y2 : Bool) =>
      bif !(y2) then
        bif decide (((x2.length : Int) + (([(e)] : List DAtom).length : Int)) * 48 ≤ room) && decide ((x2.length : Int) + (([(e)] : List DAtom).length : Int) ≤ room) then
          P_spec_l12Up_0_7 K0 x3 rest (x2 ++ ([(e)] : List DAtom))
        else none
      else
        P_spec_l12Up_0_7 K0 x3 rest x2
noncomputable def P_spec_l12Up_0_3 (x1 : (List DThing)) : Nat → (List DAtom) → Int → Option (List DAtom)
  | 0, _, _ => none
  | m + 1, x2, x3 =>
      bif decide (x3 < (x2.length : Int)) then
        bif inB x3 x2.length then
          Option.bind (P_spec_l11Thing x1 (rd x2 x3 (Ty.dflt TyAtom))) fun (y1 : (DThing × Bool)) =>
          lenOk y1.1.2.1 (P_spec_l12Up_0_7 (fun s0 s1 => P_spec_l12Up_0_3 x1 m s0 s1) x3 y1.1.2.1 x2)
        else none
      else
        Option.bind (E_spec_l1Sorted x2) fun (y3 : (List DAtom)) =>
        some y3
noncomputable def P_spec_l12Up (m : Nat) (a0 : (List DThing)) (a1 : DAtom) : Option (List DAtom) :=
  P_spec_l12Up_0_3 a0 m ([a1] : List DAtom) 0
noncomputable def E_spec_l12Up (a0 : (List DThing)) (a1 : DAtom) : Option (List DAtom) := evOpt fun m => P_spec_l12Up m a0 a1
noncomputable def c_spec_l12Up : Ctr := ⟨84, [(.list TyThing), TyAtom], [(.list TyAtom)], fun x => E_spec_l12Up x.1 x.2.1⟩
def A_spec_l12Up : List (List Nat × Ann) := [([0, 3], [.keep 0 0, .own 0 5 TyAtom, .keep 0 6]), ([0, 7], [.keep 0 0, .own 0 5 TyAtom, .keep 0 6, .keep 0 29, .keep 0 30, .keep 0 31])]
def In_spec_l12Up : List (List Nat × Nat) := []
noncomputable def cs_spec_l12Up : List Ctr := [c_spec_l11Thing, c_spec_l12Has, c_spec_l1Sorted]
noncomputable def F_spec_l12Up (n : Nat) (a0 : (List DThing)) (a1 : DAtom) : Option (List DAtom) := run Try.prog A_spec_l12Up In_spec_l12Up (conOf cs_spec_l12Up) Try.f84 (Try.f84.body.getD .skip) (packT [(.list TyAtom)]) n (argsV [(.list TyThing), TyAtom] (a0, a1, ()))
noncomputable abbrev L_spec_l12Up_0_3 (n : Nat) (x1 : (List DThing)) (x2 : (List DAtom)) (x3 : Int) : Option (List DAtom) := lam Try.prog A_spec_l12Up In_spec_l12Up (conOf cs_spec_l12Up) Try.f84 (Try.f84.body.getD .skip) (packT [(.list TyAtom)]) n [0, 3] [.d (.list TyThing) x1, .own 0 TyAtom x2, .d I64 x3]
noncomputable abbrev L_spec_l12Up_0_7 (n : Nat) (x1 : (List DThing)) (x2 : (List DAtom)) (x3 : Int) (x4 : (List DAtom)) (x5 : Int) (x6 : Int) : Option (List DAtom) := lam Try.prog A_spec_l12Up In_spec_l12Up (conOf cs_spec_l12Up) Try.f84 (Try.f84.body.getD .skip) (packT [(.list TyAtom)]) n [0, 7] [.d (.list TyThing) x1, .own 0 TyAtom x2, .d I64 x3, .d (.list TyAtom) x4, .d I64 x5, .d I64 x6]
theorem F_spec_l12Up_eq (n : Nat) (a0 : (List DThing)) (a1 : DAtom) : F_spec_l12Up n a0 a1 =
    L_spec_l12Up_0_3 n a0 ([a1] : List DAtom) 0 := by kernel_rfl
theorem L_spec_l12Up_0_3_eq (n : Nat) (x1 : (List DThing)) (x2 : (List DAtom)) (x3 : Int) : L_spec_l12Up_0_3 (n + 1) x1 x2 x3 =
    bif decide (x3 < (x2.length : Int)) then
      bif inB x3 x2.length then
        Option.bind (P_spec_l11Thing x1 (rd x2 x3 (Ty.dflt TyAtom))) fun (y1 : (DThing × Bool)) =>
        L_spec_l12Up_0_7 n x1 x2 x3 y1.1.2.1 (y1.1.2.1.length : Int) 0
      else none
    else
      Option.bind (E_spec_l1Sorted x2) fun (y3 : (List DAtom)) =>
      some y3 := by kernel_rfl
theorem L_spec_l12Up_0_7_eq (n : Nat) (x1 : (List DThing)) (x2 : (List DAtom)) (x3 : Int) (x4 : (List DAtom)) (x5 : Int) (x6 : Int) : L_spec_l12Up_0_7 (n + 1) x1 x2 x3 x4 x5 x6 =
    bif decide (x6 < x5) then
      bif inB x6 x4.length then
        Option.bind (P_spec_l12Has x2 (rd x4 x6 (Ty.dflt TyAtom))) fun (y2 : Bool) =>
        bif !(y2) then
          bif decide (((x2.length : Int) + (([(rd x4 x6 (Ty.dflt TyAtom))] : List DAtom).length : Int)) * 48 ≤ room) && decide ((x2.length : Int) + (([(rd x4 x6 (Ty.dflt TyAtom))] : List DAtom).length : Int) ≤ room) then
            L_spec_l12Up_0_7 n x1 (x2 ++ ([(rd x4 x6 (Ty.dflt TyAtom))] : List DAtom)) x3 x4 x5 (IntKind.wrap .i64 (x6 + 1))
          else none
        else
          L_spec_l12Up_0_7 n x1 x2 x3 x4 x5 (IntKind.wrap .i64 (x6 + 1))
      else none
    else
      L_spec_l12Up_0_3 n x1 x2 (IntKind.wrap .i64 (x3 + 1)) := by kernel_rfl
theorem S_spec_l12Up_0_7 {K0 : (List DAtom) → Int → Option (List DAtom)} {x1 : (List DThing)} {x3 : Int} {x4 : (List DAtom)} (hl : x4.length ≤ maxLen) (hK0 : ∀ (z2 : (List DAtom)) (z3 : Int) (r : (List DAtom)), K0 z2 z3 = some r → Ev (fun n => L_spec_l12Up_0_3 n x1 z2 z3) r) : ∀ (rest : List DAtom) (k : Nat) (x2 : (List DAtom)) (r : (List DAtom)), rest = x4.drop k → P_spec_l12Up_0_7 K0 x3 rest x2 = some r → Ev (fun n => L_spec_l12Up_0_7 n x1 x2 x3 x4 (x4.length : Int) (k : Int)) r := by
  intro rest
  induction rest with
  | nil =>
    intro k x2 r hr h
    have hk := drop_nil hr
    rw [P_spec_l12Up_0_7] at h
    refine Ev.step ?_ (fun n => L_spec_l12Up_0_7_eq n x1 x2 x3 x4 (x4.length : Int) (k : Int))
    rw [show decide ((k : Int) < (x4.length : Int)) = false from decide_eq_false (by omega)]
    exact Ev.neg rfl (hK0 _ _ _ h)
  | cons e rest ih =>
    intro k x2 r hr h
    obtain ⟨hk, hx, hr2⟩ := drop_cons (d := (Ty.dflt TyAtom)) hr
    have hw := wrap_succ hl hk
    have ih2 : ∀ (z2 : (List DAtom)) (r : (List DAtom)), P_spec_l12Up_0_7 K0 x3 rest z2 = some r → Ev (fun n => L_spec_l12Up_0_7 n x1 z2 x3 x4 (x4.length : Int) (IntKind.wrap .i64 ((k : Int) + 1))) r := by
      intro z2 r h; rw [hw]; exact ih (k + 1) z2 r hr2 h
    rw [P_spec_l12Up_0_7] at h
    refine Ev.step ?_ (fun n => L_spec_l12Up_0_7_eq n x1 x2 x3 x4 (x4.length : Int) (k : Int))
    rw [show decide ((k : Int) < (x4.length : Int)) = true from decide_eq_true (by omega), inB_nat2 hk, hx]
    exact Ev.pos rfl (Ev.pos rfl (Ev.ofBind h fun y2 h => (Ev.ofBif h (fun h => (Ev.ofBif h (fun h => (ih2 _ _ h)) (fun h => (Ev.ofNone h)))) (fun h => (ih2 _ _ h)))))
theorem S_spec_l12Up_0_3 {x1 : (List DThing)} : ∀ (m : Nat) (x2 : (List DAtom)) (x3 : Int) (r : (List DAtom)), P_spec_l12Up_0_3 x1 m x2 x3 = some r → Ev (fun n => L_spec_l12Up_0_3 n x1 x2 x3) r := by
  intro m
  induction m with
  | zero => intro x2 x3 r h; rw [P_spec_l12Up_0_3] at h; exact Ev.ofNone h
  | succ m ih2 =>
    intro x2 x3 r h
    rw [P_spec_l12Up_0_3] at h
    refine Ev.step ?_ (fun n => L_spec_l12Up_0_3_eq n x1 x2 x3)
    exact (Ev.ofBif h (fun h => (Ev.ofBif h (fun h => (Ev.ofBind h fun y1 h => (Ev.ofLen h fun hl h => S_spec_l12Up_0_7 hl ih2 _ (0 : Nat) _ _ rfl h))) (fun h => (Ev.ofNone h)))) (fun h => (Ev.ofBind h fun y3 h => (Ev.ofSome h))))
theorem S_spec_l12Up {m : Nat} (a0 : (List DThing)) (a1 : DAtom) {r : (List DAtom)} (h : P_spec_l12Up m a0 a1 = some r) : Ev (fun n => F_spec_l12Up n a0 a1) r := by
  rw [P_spec_l12Up] at h
  refine Ev.of_eq ?_ (fun n => F_spec_l12Up_eq n a0 a1)
  exact (S_spec_l12Up_0_3 _ _ _ _ h)
theorem hcs_spec_l12Up : ∀ x ∈ cs_spec_l12Up, CtrOk Try.prog x := (conOf_cons ok_spec_l11Thing (conOf_cons ok_spec_l12Has (conOf_cons ok_spec_l1Sorted conOf_nil)))
theorem ok_spec_l12Up : CtrOk Try.prog c_spec_l12Up := by
  refine ctr_of_run (c := c_spec_l12Up) (by kernel_rfl : Try.prog.funcs[84]? = some Try.f84) (code := Try.f84.body.getD .skip) (by kernel_rfl) (by kernel_rfl) (by kernel_rfl) (A := A_spec_l12Up) (I := In_spec_l12Up) hcs_spec_l12Up ?_
  rintro ⟨a0, a1, u⟩ y hy
  exact let ⟨_, h⟩ := (evOpt_get hy).get; (S_spec_l12Up a0 a1 h).get

/-! ## spec.l12Matches (33) -/
noncomputable def P_spec_l12Matches (a0 : (List DThing)) (a1 : DHead) (a2 : DAtom) : Option Bool :=
  bif decide (a1.1 = 1) then
    some true
  else
    bif decide (a1.1 = 2) then
      some (@decide (a1.2.1 = a2) (Ty.decEq TyAtom a1.2.1 a2))
    else
      bif decide (a1.1 = 3) then
        Option.bind (E_spec_l12Up a0 a2) fun (y1 : (List DAtom)) =>
        Option.bind (P_spec_l12Has y1 a1.2.1) fun (y2 : Bool) =>
        some y2
      else
        bif decide (a1.1 = 4) then
          some (decide (a1.2.2 = a2.2.2.2))
        else
          some false
noncomputable def c_spec_l12Matches : Ctr := ⟨33, [(.list TyThing), TyHead, TyAtom], [.bool], fun x => P_spec_l12Matches x.1 x.2.1 x.2.2.1⟩
def A_spec_l12Matches : List (List Nat × Ann) := []
def In_spec_l12Matches : List (List Nat × Nat) := []
noncomputable def cs_spec_l12Matches : List Ctr := [c_spec_l12Up, c_spec_l12Has]
noncomputable def F_spec_l12Matches (n : Nat) (a0 : (List DThing)) (a1 : DHead) (a2 : DAtom) : Option Bool := run Try.prog A_spec_l12Matches In_spec_l12Matches (conOf cs_spec_l12Matches) Try.f33 (Try.f33.body.getD .skip) (packT [.bool]) n (argsV [(.list TyThing), TyHead, TyAtom] (a0, a1, a2, ()))
theorem F_spec_l12Matches_eq (n : Nat) (a0 : (List DThing)) (a1 : DHead) (a2 : DAtom) : F_spec_l12Matches n a0 a1 a2 =
    bif decide (a1.1 = 1) then
      some true
    else
      bif decide (a1.1 = 2) then
        some (@decide (a1.2.1 = a2) (Ty.decEq TyAtom a1.2.1 a2))
      else
        bif decide (a1.1 = 3) then
          Option.bind (E_spec_l12Up a0 a2) fun (y1 : (List DAtom)) =>
          Option.bind (P_spec_l12Has y1 a1.2.1) fun (y2 : Bool) =>
          some y2
        else
          bif decide (a1.1 = 4) then
            some (decide (a1.2.2 = a2.2.2.2))
          else
            some false := by kernel_rfl
theorem S_spec_l12Matches (a0 : (List DThing)) (a1 : DHead) (a2 : DAtom) {r : Bool} (h : P_spec_l12Matches a0 a1 a2 = some r) : Ev (fun n => F_spec_l12Matches n a0 a1 a2) r := by
  rw [P_spec_l12Matches] at h
  refine Ev.of_eq ?_ (fun n => F_spec_l12Matches_eq n a0 a1 a2)
  exact (Ev.ofBif h (fun h => (Ev.ofSome h)) (fun h => (Ev.ofBif h (fun h => (Ev.ofSome h)) (fun h => (Ev.ofBif h (fun h => (Ev.ofBind h fun y1 h => (Ev.ofBind h fun y2 h => (Ev.ofSome h)))) (fun h => (Ev.ofBif h (fun h => (Ev.ofSome h)) (fun h => (Ev.ofSome h)))))))))
theorem hcs_spec_l12Matches : ∀ x ∈ cs_spec_l12Matches, CtrOk Try.prog x := (conOf_cons ok_spec_l12Up (conOf_cons ok_spec_l12Has conOf_nil))
theorem ok_spec_l12Matches : CtrOk Try.prog c_spec_l12Matches := by
  refine ctr_of_run (c := c_spec_l12Matches) (by kernel_rfl : Try.prog.funcs[33]? = some Try.f33) (code := Try.f33.body.getD .skip) (by kernel_rfl) (by kernel_rfl) (by kernel_rfl) (A := A_spec_l12Matches) (I := In_spec_l12Matches) hcs_spec_l12Matches ?_
  rintro ⟨a0, a1, a2, u⟩ y hy
  exact (S_spec_l12Matches a0 a1 a2 hy).get

/-! ## spec.HeadMatches (9) -/
noncomputable def P_spec_HeadMatches (a0 : (List DThing)) (a1 : DHead) (a2 : DAtom) : Option Bool :=
  Option.bind (P_spec_GoodThings a0) fun (y1 : Bool) =>
  bif y1 then
    Option.bind (P_spec_l10GoodHead a1 true) fun (y2 : Bool) =>
    bif y2 then
      Option.bind (P_spec_l11Ref a2) fun (y3 : Bool) =>
      bif y3 then
        Option.bind (P_spec_l12Matches a0 a1 a2) fun (y4 : Bool) =>
        some y4
      else
        some false
    else
      some false
  else
    some false
noncomputable def c_spec_HeadMatches : Ctr := ⟨9, [(.list TyThing), TyHead, TyAtom], [.bool], fun x => P_spec_HeadMatches x.1 x.2.1 x.2.2.1⟩
def A_spec_HeadMatches : List (List Nat × Ann) := []
def In_spec_HeadMatches : List (List Nat × Nat) := []
noncomputable def cs_spec_HeadMatches : List Ctr := [c_spec_GoodThings, c_spec_l10GoodHead, c_spec_l11Ref, c_spec_l12Matches]
noncomputable def F_spec_HeadMatches (n : Nat) (a0 : (List DThing)) (a1 : DHead) (a2 : DAtom) : Option Bool := run Try.prog A_spec_HeadMatches In_spec_HeadMatches (conOf cs_spec_HeadMatches) Try.f9 (Try.f9.body.getD .skip) (packT [.bool]) n (argsV [(.list TyThing), TyHead, TyAtom] (a0, a1, a2, ()))
theorem F_spec_HeadMatches_eq (n : Nat) (a0 : (List DThing)) (a1 : DHead) (a2 : DAtom) : F_spec_HeadMatches n a0 a1 a2 =
    Option.bind (P_spec_GoodThings a0) fun (y1 : Bool) =>
    bif y1 then
      Option.bind (P_spec_l10GoodHead a1 true) fun (y2 : Bool) =>
      bif y2 then
        Option.bind (P_spec_l11Ref a2) fun (y3 : Bool) =>
        bif y3 then
          Option.bind (P_spec_l12Matches a0 a1 a2) fun (y4 : Bool) =>
          some y4
        else
          some false
      else
        some false
    else
      some false := by kernel_rfl
theorem S_spec_HeadMatches (a0 : (List DThing)) (a1 : DHead) (a2 : DAtom) {r : Bool} (h : P_spec_HeadMatches a0 a1 a2 = some r) : Ev (fun n => F_spec_HeadMatches n a0 a1 a2) r := by
  rw [P_spec_HeadMatches] at h
  refine Ev.of_eq ?_ (fun n => F_spec_HeadMatches_eq n a0 a1 a2)
  exact (Ev.ofBind h fun y1 h => (Ev.ofBif h (fun h => (Ev.ofBind h fun y2 h => (Ev.ofBif h (fun h => (Ev.ofBind h fun y3 h => (Ev.ofBif h (fun h => (Ev.ofBind h fun y4 h => (Ev.ofSome h))) (fun h => (Ev.ofSome h))))) (fun h => (Ev.ofSome h))))) (fun h => (Ev.ofSome h))))
theorem hcs_spec_HeadMatches : ∀ x ∈ cs_spec_HeadMatches, CtrOk Try.prog x := (conOf_cons ok_spec_GoodThings (conOf_cons ok_spec_l10GoodHead (conOf_cons ok_spec_l11Ref (conOf_cons ok_spec_l12Matches conOf_nil))))
theorem ok_spec_HeadMatches : CtrOk Try.prog c_spec_HeadMatches := by
  refine ctr_of_run (c := c_spec_HeadMatches) (by kernel_rfl : Try.prog.funcs[9]? = some Try.f9) (code := Try.f9.body.getD .skip) (by kernel_rfl) (by kernel_rfl) (by kernel_rfl) (A := A_spec_HeadMatches) (I := In_spec_HeadMatches) hcs_spec_HeadMatches ?_
  rintro ⟨a0, a1, a2, u⟩ y hy
  exact (S_spec_HeadMatches a0 a1 a2 hy).get

/-! ## impl.yprinted (151) -/
noncomputable def P_impl_yprinted_0_4 : List Int → Option Bool
  | [] =>
      some true
  | e :: rest =>
      bif decide (e < 32) then
        some false
      else
        bif decide ((126 : Int) < e) then
          some false
        else
          P_impl_yprinted_0_4 rest
noncomputable def P_impl_yprinted (a0 : (List Int)) (a1 : Int) (a2 : Int) : Option Bool :=
  bif decide ((a0.length : Int) < a1) then
    some false
  else
    bif decide (a2 < (a0.length : Int)) then
      some false
    else
      lenOk a0 (P_impl_yprinted_0_4 a0)
noncomputable def c_impl_yprinted : Ctr := ⟨151, [.str, I64, I64], [.bool], fun x => P_impl_yprinted x.1 x.2.1 x.2.2.1⟩
def A_impl_yprinted : List (List Nat × Ann) := [([0, 4], [.keep 0 0, .keep 0 19, .keep 0 20])]
def In_impl_yprinted : List (List Nat × Nat) := []
noncomputable def cs_impl_yprinted : List Ctr := []
noncomputable def F_impl_yprinted (n : Nat) (a0 : (List Int)) (a1 : Int) (a2 : Int) : Option Bool := run Try.prog A_impl_yprinted In_impl_yprinted (conOf cs_impl_yprinted) Try.f151 (Try.f151.body.getD .skip) (packT [.bool]) n (argsV [.str, I64, I64] (a0, a1, a2, ()))
noncomputable abbrev L_impl_yprinted_0_4 (n : Nat) (x1 : (List Int)) (x2 : Int) (x3 : Int) : Option Bool := lam Try.prog A_impl_yprinted In_impl_yprinted (conOf cs_impl_yprinted) Try.f151 (Try.f151.body.getD .skip) (packT [.bool]) n [0, 4] [.d .str x1, .d I64 x2, .d I64 x3]
theorem F_impl_yprinted_eq (n : Nat) (a0 : (List Int)) (a1 : Int) (a2 : Int) : F_impl_yprinted n a0 a1 a2 =
    bif decide ((a0.length : Int) < a1) then
      some false
    else
      bif decide (a2 < (a0.length : Int)) then
        some false
      else
        L_impl_yprinted_0_4 n a0 (a0.length : Int) 0 := by kernel_rfl
theorem L_impl_yprinted_0_4_eq (n : Nat) (x1 : (List Int)) (x2 : Int) (x3 : Int) : L_impl_yprinted_0_4 (n + 1) x1 x2 x3 =
    bif decide (x3 < x2) then
      bif inB x3 x1.length then
        bif decide (rd x1 x3 0 < 32) then
          some false
        else
          bif inB x3 x1.length then
            bif decide ((126 : Int) < rd x1 x3 0) then
              some false
            else
              L_impl_yprinted_0_4 n x1 x2 (IntKind.wrap .i64 (x3 + 1))
          else none
      else none
    else
      some true := by kernel_rfl
theorem S_impl_yprinted_0_4 {x1 : (List Int)} (hl : x1.length ≤ maxLen) : ∀ (rest : List Int) (k : Nat) (r : Bool), rest = x1.drop k → P_impl_yprinted_0_4 rest = some r → Ev (fun n => L_impl_yprinted_0_4 n x1 (x1.length : Int) (k : Int)) r := by
  intro rest
  induction rest with
  | nil =>
    intro k r hr h
    have hk := drop_nil hr
    rw [P_impl_yprinted_0_4] at h
    refine Ev.step ?_ (fun n => L_impl_yprinted_0_4_eq n x1 (x1.length : Int) (k : Int))
    rw [show decide ((k : Int) < (x1.length : Int)) = false from decide_eq_false (by omega)]
    exact Ev.neg rfl (Ev.ofSome h)
  | cons e rest ih =>
    intro k r hr h
    obtain ⟨hk, hx, hr2⟩ := drop_cons (d := 0) hr
    have hw := wrap_succ hl hk
    have ih2 : ∀ (r : Bool), P_impl_yprinted_0_4 rest = some r → Ev (fun n => L_impl_yprinted_0_4 n x1 (x1.length : Int) (IntKind.wrap .i64 ((k : Int) + 1))) r := by
      intro r h; rw [hw]; exact ih (k + 1) r hr2 h
    rw [P_impl_yprinted_0_4] at h
    refine Ev.step ?_ (fun n => L_impl_yprinted_0_4_eq n x1 (x1.length : Int) (k : Int))
    rw [show decide ((k : Int) < (x1.length : Int)) = true from decide_eq_true (by omega), inB_nat2 hk, hx]
    exact Ev.pos rfl (Ev.pos rfl (Ev.ofBif h (fun h => (Ev.ofSome h)) (fun h => (Ev.pos rfl (Ev.ofBif h (fun h => (Ev.ofSome h)) (fun h => (ih2  _ h)))))))
theorem S_impl_yprinted (a0 : (List Int)) (a1 : Int) (a2 : Int) {r : Bool} (h : P_impl_yprinted a0 a1 a2 = some r) : Ev (fun n => F_impl_yprinted n a0 a1 a2) r := by
  rw [P_impl_yprinted] at h
  refine Ev.of_eq ?_ (fun n => F_impl_yprinted_eq n a0 a1 a2)
  exact (Ev.ofBif h (fun h => (Ev.ofSome h)) (fun h => (Ev.ofBif h (fun h => (Ev.ofSome h)) (fun h => (Ev.ofLen h fun hl h => S_impl_yprinted_0_4 hl _ (0 : Nat) _ rfl h)))))
theorem hcs_impl_yprinted : ∀ x ∈ cs_impl_yprinted, CtrOk Try.prog x := conOf_nil
theorem ok_impl_yprinted : CtrOk Try.prog c_impl_yprinted := by
  refine ctr_of_run (c := c_impl_yprinted) (by kernel_rfl : Try.prog.funcs[151]? = some Try.f151) (code := Try.f151.body.getD .skip) (by kernel_rfl) (by kernel_rfl) (by kernel_rfl) (A := A_impl_yprinted) (I := In_impl_yprinted) hcs_impl_yprinted ?_
  rintro ⟨a0, a1, a2, u⟩ y hy
  exact (S_impl_yprinted a0 a1 a2 hy).get

/-! ## impl.ydigit (149) -/
def T_impl_ydigit (a0 : Int) : Bool :=
  bif decide ((48 : Int) ≤ a0) then
    decide (a0 ≤ 57)
  else
    false
noncomputable def c_impl_ydigit : Ctr := ⟨149, [U8], [.bool], fun x => some (T_impl_ydigit x.1)⟩
def A_impl_ydigit : List (List Nat × Ann) := []
def In_impl_ydigit : List (List Nat × Nat) := []
noncomputable def cs_impl_ydigit : List Ctr := []
noncomputable def F_impl_ydigit (n : Nat) (a0 : Int) : Option Bool := run Try.prog A_impl_ydigit In_impl_ydigit (conOf cs_impl_ydigit) Try.f149 (Try.f149.body.getD .skip) (packT [.bool]) n (argsV [U8] (a0, ()))
theorem F_impl_ydigit_eq (n : Nat) (a0 : Int) : F_impl_ydigit n a0 =
    bif decide ((48 : Int) ≤ a0) then
      some (decide (a0 ≤ 57))
    else
      some false := by kernel_rfl
theorem S_impl_ydigit (n : Nat) (a0 : Int) : F_impl_ydigit n a0 = some (T_impl_ydigit a0) := (F_impl_ydigit_eq n a0).trans (cond_some rfl rfl)
theorem hcs_impl_ydigit : ∀ x ∈ cs_impl_ydigit, CtrOk Try.prog x := conOf_nil
theorem ok_impl_ydigit : CtrOk Try.prog c_impl_ydigit := by
  refine ctr_of_run (c := c_impl_ydigit) (by kernel_rfl : Try.prog.funcs[149]? = some Try.f149) (code := Try.f149.body.getD .skip) (by kernel_rfl) (by kernel_rfl) (by kernel_rfl) (A := A_impl_ydigit) (I := In_impl_ydigit) hcs_impl_ydigit ?_
  rintro ⟨a0, u⟩ y hy
  exact ⟨0, (S_impl_ydigit 0 a0).trans hy⟩

/-! ## impl.yletter (169) -/
def T_impl_yletter (a0 : Int) : Bool :=
  bif decide ((97 : Int) ≤ a0) then
    bif decide (a0 ≤ 122) then
      true
    else
      bif decide ((65 : Int) ≤ a0) then
        decide (a0 ≤ 90)
      else
        false
  else
    bif decide ((65 : Int) ≤ a0) then
      decide (a0 ≤ 90)
    else
      false
noncomputable def c_impl_yletter : Ctr := ⟨169, [U8], [.bool], fun x => some (T_impl_yletter x.1)⟩
def A_impl_yletter : List (List Nat × Ann) := []
def In_impl_yletter : List (List Nat × Nat) := []
noncomputable def cs_impl_yletter : List Ctr := []
noncomputable def F_impl_yletter (n : Nat) (a0 : Int) : Option Bool := run Try.prog A_impl_yletter In_impl_yletter (conOf cs_impl_yletter) Try.f169 (Try.f169.body.getD .skip) (packT [.bool]) n (argsV [U8] (a0, ()))
theorem F_impl_yletter_eq (n : Nat) (a0 : Int) : F_impl_yletter n a0 =
    bif decide ((97 : Int) ≤ a0) then
      bif decide (a0 ≤ 122) then
        some true
      else
        bif decide ((65 : Int) ≤ a0) then
          some (decide (a0 ≤ 90))
        else
          some false
    else
      bif decide ((65 : Int) ≤ a0) then
        some (decide (a0 ≤ 90))
      else
        some false := by kernel_rfl
theorem S_impl_yletter (n : Nat) (a0 : Int) : F_impl_yletter n a0 = some (T_impl_yletter a0) := (F_impl_yletter_eq n a0).trans (cond_some (cond_some rfl (cond_some rfl rfl)) (cond_some rfl rfl))
theorem hcs_impl_yletter : ∀ x ∈ cs_impl_yletter, CtrOk Try.prog x := conOf_nil
theorem ok_impl_yletter : CtrOk Try.prog c_impl_yletter := by
  refine ctr_of_run (c := c_impl_yletter) (by kernel_rfl : Try.prog.funcs[169]? = some Try.f169) (code := Try.f169.body.getD .skip) (by kernel_rfl) (by kernel_rfl) (by kernel_rfl) (A := A_impl_yletter) (I := In_impl_yletter) hcs_impl_yletter ?_
  rintro ⟨a0, u⟩ y hy
  exact ⟨0, (S_impl_yletter 0 a0).trans hy⟩

/-! ## impl.ywordByte (150) -/
def T_impl_ywordByte (a0 : Int) : Bool :=
  bif T_impl_yletter a0 then
    true
  else
    bif T_impl_ydigit a0 then
      true
    else
      decide (a0 = 95)
noncomputable def c_impl_ywordByte : Ctr := ⟨150, [U8], [.bool], fun x => some (T_impl_ywordByte x.1)⟩
def A_impl_ywordByte : List (List Nat × Ann) := []
def In_impl_ywordByte : List (List Nat × Nat) := []
noncomputable def cs_impl_ywordByte : List Ctr := [c_impl_yletter, c_impl_ydigit]
noncomputable def F_impl_ywordByte (n : Nat) (a0 : Int) : Option Bool := run Try.prog A_impl_ywordByte In_impl_ywordByte (conOf cs_impl_ywordByte) Try.f150 (Try.f150.body.getD .skip) (packT [.bool]) n (argsV [U8] (a0, ()))
theorem F_impl_ywordByte_eq (n : Nat) (a0 : Int) : F_impl_ywordByte n a0 =
    bif T_impl_yletter a0 then
      some true
    else
      bif T_impl_ydigit a0 then
        some true
      else
        some (decide (a0 = 95)) := by kernel_rfl
theorem S_impl_ywordByte (n : Nat) (a0 : Int) : F_impl_ywordByte n a0 = some (T_impl_ywordByte a0) := (F_impl_ywordByte_eq n a0).trans (cond_some rfl (cond_some rfl rfl))
theorem hcs_impl_ywordByte : ∀ x ∈ cs_impl_ywordByte, CtrOk Try.prog x := (conOf_cons ok_impl_yletter (conOf_cons ok_impl_ydigit conOf_nil))
theorem ok_impl_ywordByte : CtrOk Try.prog c_impl_ywordByte := by
  refine ctr_of_run (c := c_impl_ywordByte) (by kernel_rfl : Try.prog.funcs[150]? = some Try.f150) (code := Try.f150.body.getD .skip) (by kernel_rfl) (by kernel_rfl) (by kernel_rfl) (A := A_impl_ywordByte) (I := In_impl_ywordByte) hcs_impl_ywordByte ?_
  rintro ⟨a0, u⟩ y hy
  exact ⟨0, (S_impl_ywordByte 0 a0).trans hy⟩

/-! ## impl.GoodName (91) -/
noncomputable def P_impl_GoodName_0_4 : List Int → Option Bool
  | [] =>
      some true
  | e :: rest =>
      bif !(T_impl_ywordByte (e)) then
        some false
      else
        P_impl_GoodName_0_4 rest
noncomputable def P_impl_GoodName (a0 : (List Int)) : Option Bool :=
  bif decide (a0 = ([] : List Int)) then
    some false
  else
    bif decide ((30 : Int) < (a0.length : Int)) then
      some false
    else
      bif inB 0 a0.length then
        bif T_impl_ydigit (rd a0 0 0) then
          some false
        else
          lenOk a0 (P_impl_GoodName_0_4 a0)
      else none
noncomputable def c_impl_GoodName : Ctr := ⟨91, [.str], [.bool], fun x => P_impl_GoodName x.1⟩
def A_impl_GoodName : List (List Nat × Ann) := [([0, 4], [.keep 0 0, .keep 0 17, .keep 0 18])]
def In_impl_GoodName : List (List Nat × Nat) := []
noncomputable def cs_impl_GoodName : List Ctr := [c_impl_ydigit, c_impl_ywordByte]
noncomputable def F_impl_GoodName (n : Nat) (a0 : (List Int)) : Option Bool := run Try.prog A_impl_GoodName In_impl_GoodName (conOf cs_impl_GoodName) Try.f91 (Try.f91.body.getD .skip) (packT [.bool]) n (argsV [.str] (a0, ()))
noncomputable abbrev L_impl_GoodName_0_4 (n : Nat) (x1 : (List Int)) (x2 : Int) (x3 : Int) : Option Bool := lam Try.prog A_impl_GoodName In_impl_GoodName (conOf cs_impl_GoodName) Try.f91 (Try.f91.body.getD .skip) (packT [.bool]) n [0, 4] [.d .str x1, .d I64 x2, .d I64 x3]
theorem F_impl_GoodName_eq (n : Nat) (a0 : (List Int)) : F_impl_GoodName n a0 =
    bif decide (a0 = ([] : List Int)) then
      some false
    else
      bif decide ((30 : Int) < (a0.length : Int)) then
        some false
      else
        bif inB 0 a0.length then
          bif T_impl_ydigit (rd a0 0 0) then
            some false
          else
            L_impl_GoodName_0_4 n a0 (a0.length : Int) 0
        else none := by kernel_rfl
theorem L_impl_GoodName_0_4_eq (n : Nat) (x1 : (List Int)) (x2 : Int) (x3 : Int) : L_impl_GoodName_0_4 (n + 1) x1 x2 x3 =
    bif decide (x3 < x2) then
      bif inB x3 x1.length then
        bif !(T_impl_ywordByte (rd x1 x3 0)) then
          some false
        else
          L_impl_GoodName_0_4 n x1 x2 (IntKind.wrap .i64 (x3 + 1))
      else none
    else
      some true := by kernel_rfl
theorem S_impl_GoodName_0_4 {x1 : (List Int)} (hl : x1.length ≤ maxLen) : ∀ (rest : List Int) (k : Nat) (r : Bool), rest = x1.drop k → P_impl_GoodName_0_4 rest = some r → Ev (fun n => L_impl_GoodName_0_4 n x1 (x1.length : Int) (k : Int)) r := by
  intro rest
  induction rest with
  | nil =>
    intro k r hr h
    have hk := drop_nil hr
    rw [P_impl_GoodName_0_4] at h
    refine Ev.step ?_ (fun n => L_impl_GoodName_0_4_eq n x1 (x1.length : Int) (k : Int))
    rw [show decide ((k : Int) < (x1.length : Int)) = false from decide_eq_false (by omega)]
    exact Ev.neg rfl (Ev.ofSome h)
  | cons e rest ih =>
    intro k r hr h
    obtain ⟨hk, hx, hr2⟩ := drop_cons (d := 0) hr
    have hw := wrap_succ hl hk
    have ih2 : ∀ (r : Bool), P_impl_GoodName_0_4 rest = some r → Ev (fun n => L_impl_GoodName_0_4 n x1 (x1.length : Int) (IntKind.wrap .i64 ((k : Int) + 1))) r := by
      intro r h; rw [hw]; exact ih (k + 1) r hr2 h
    rw [P_impl_GoodName_0_4] at h
    refine Ev.step ?_ (fun n => L_impl_GoodName_0_4_eq n x1 (x1.length : Int) (k : Int))
    rw [show decide ((k : Int) < (x1.length : Int)) = true from decide_eq_true (by omega), inB_nat2 hk, hx]
    exact Ev.pos rfl (Ev.pos rfl (Ev.ofBif h (fun h => (Ev.ofSome h)) (fun h => (ih2  _ h))))
theorem S_impl_GoodName (a0 : (List Int)) {r : Bool} (h : P_impl_GoodName a0 = some r) : Ev (fun n => F_impl_GoodName n a0) r := by
  rw [P_impl_GoodName] at h
  refine Ev.of_eq ?_ (fun n => F_impl_GoodName_eq n a0)
  exact (Ev.ofBif h (fun h => (Ev.ofSome h)) (fun h => (Ev.ofBif h (fun h => (Ev.ofSome h)) (fun h => (Ev.ofBif h (fun h => (Ev.ofBif h (fun h => (Ev.ofSome h)) (fun h => (Ev.ofLen h fun hl h => S_impl_GoodName_0_4 hl _ (0 : Nat) _ rfl h)))) (fun h => (Ev.ofNone h)))))))
theorem hcs_impl_GoodName : ∀ x ∈ cs_impl_GoodName, CtrOk Try.prog x := (conOf_cons ok_impl_ydigit (conOf_cons ok_impl_ywordByte conOf_nil))
theorem ok_impl_GoodName : CtrOk Try.prog c_impl_GoodName := by
  refine ctr_of_run (c := c_impl_GoodName) (by kernel_rfl : Try.prog.funcs[91]? = some Try.f91) (code := Try.f91.body.getD .skip) (by kernel_rfl) (by kernel_rfl) (by kernel_rfl) (A := A_impl_GoodName) (I := In_impl_GoodName) hcs_impl_GoodName ?_
  rintro ⟨a0, u⟩ y hy
  exact (S_impl_GoodName a0 hy).get

/-! ## impl.GoodAtom (92) -/
noncomputable def P_impl_GoodAtom_1_7 (x1 : Bool) (x2 : Int) (x3 : Bool) (x4 : DAtom) : Option Bool :=
  bif x3 then
    some x1
  else
    bif decide (x2 = 3) then
      bif decide (x4.2.1 = 0) then
        bif decide (x4.2.2.2 = ([] : List Int)) then
          Option.bind (P_impl_yprinted x4.2.2.1 0 200) fun (y1 : Bool) =>
          some y1
        else
          some false
      else
        some false
    else
      bif decide (x2 = 4) then
        bif decide (x4.2.1 = 0) then
          Option.bind (P_impl_GoodName x4.2.2.2) fun (y2 : Bool) =>
          bif y2 then
            Option.bind (P_impl_yprinted x4.2.2.1 1 200) fun (y3 : Bool) =>
            some y3
          else
            some false
        else
          some false
      else
        bif decide (x2 = 6) then
          bif !(x1) then
            some false
          else
            bif decide (x4.2.1 < 0) then
              some false
            else
              bif decide (Int.tmod x4.2.1 64 ≤ 32) then
                bif decide (IntKind.wrap .i64 (Int.tdiv x4.2.1 64) < 4294967296) then
                  bif decide ((0 : Int) ≤ IntKind.wrap .i64 (32 - (Int.tmod x4.2.1 64))) then
                    bif decide (IntKind.wrap .i64 (1 * 2 ^ (min (Int.toNat (IntKind.wrap .i64 (32 - (Int.tmod x4.2.1 64)))) 64)) = 0) then none else
                    some (decide (Int.tmod (IntKind.wrap .i64 (Int.tdiv x4.2.1 64)) (IntKind.wrap .i64 (1 * 2 ^ (min (Int.toNat (IntKind.wrap .i64 (32 - (Int.tmod x4.2.1 64)))) 64))) = 0))
                  else none
                else
                  some false
              else
                some false
        else
          bif decide (x2 = 7) then
            bif x1 then
              bif decide (((-100000000000) : Int) ≤ x4.2.1) then
                some (decide (x4.2.1 ≤ 100000000000))
              else
                some false
            else
              some false
          else
            some false
noncomputable def P_impl_GoodAtom_1_2 (x1 : Bool) (x2 : DAtom) : Option Bool :=
  bif decide (x2.1 = 1) then
    bif x1 then
      bif decide (x2.2.1 = 0) then
        some true
      else
        some (decide (x2.2.1 = 1))
    else
      some false
  else
    bif decide (x2.1 = 2) then
      P_impl_GoodAtom_1_7 x1 x2.1 (decide (x2.1 = 2)) x2
    else
      P_impl_GoodAtom_1_7 x1 x2.1 (decide (x2.1 = 5)) x2
noncomputable def P_impl_GoodAtom (a0 : DAtom) : Option Bool :=
  bif decide (a0.2.2.1 = ([] : List Int)) then
    P_impl_GoodAtom_1_2 (decide (a0.2.2.2 = ([] : List Int))) a0
  else
    P_impl_GoodAtom_1_2 false a0
noncomputable def c_impl_GoodAtom : Ctr := ⟨92, [TyAtom], [.bool], fun x => P_impl_GoodAtom x.1⟩
def A_impl_GoodAtom : List (List Nat × Ann) := [([1, 2], [.keep 0 1, .keep 0 3, .boxd 0 1 TyAtom]), ([1, 7], [.keep 0 1, .keep 0 3, .keep 0 15, .keep 0 29, .boxd 0 1 TyAtom])]
def In_impl_GoodAtom : List (List Nat × Nat) := []
noncomputable def cs_impl_GoodAtom : List Ctr := [c_impl_yprinted, c_impl_GoodName]
noncomputable def F_impl_GoodAtom (n : Nat) (a0 : DAtom) : Option Bool := run Try.prog A_impl_GoodAtom In_impl_GoodAtom (conOf cs_impl_GoodAtom) Try.f92 (Try.f92.body.getD .skip) (packT [.bool]) n (argsV [TyAtom] (a0, ()))
noncomputable abbrev L_impl_GoodAtom_1_2 (n : Nat) (x1 : Bool) (x2 : DAtom) : Option Bool := lam Try.prog A_impl_GoodAtom In_impl_GoodAtom (conOf cs_impl_GoodAtom) Try.f92 (Try.f92.body.getD .skip) (packT [.bool]) n [1, 2] [.ptr 0 1 0, .d .bool x1, .agg (explode TyAtom x2)]
noncomputable abbrev L_impl_GoodAtom_1_7 (n : Nat) (x1 : Bool) (x2 : Int) (x3 : Bool) (x4 : DAtom) : Option Bool := lam Try.prog A_impl_GoodAtom In_impl_GoodAtom (conOf cs_impl_GoodAtom) Try.f92 (Try.f92.body.getD .skip) (packT [.bool]) n [1, 7] [.ptr 0 1 0, .d .bool x1, .d I64 x2, .d .bool x3, .agg (explode TyAtom x4)]
theorem F_impl_GoodAtom_eq (n : Nat) (a0 : DAtom) : F_impl_GoodAtom n a0 =
    bif decide (a0.2.2.1 = ([] : List Int)) then
      L_impl_GoodAtom_1_2 n (decide (a0.2.2.2 = ([] : List Int))) a0
    else
      L_impl_GoodAtom_1_2 n false a0 := by kernel_rfl
theorem L_impl_GoodAtom_1_2_eq (n : Nat) (x1 : Bool) (x2 : DAtom) : L_impl_GoodAtom_1_2 (n + 1) x1 x2 =
    bif decide (x2.1 = 1) then
      bif x1 then
        bif decide (x2.2.1 = 0) then
          some true
        else
          some (decide (x2.2.1 = 1))
      else
        some false
    else
      bif decide (x2.1 = 2) then
        L_impl_GoodAtom_1_7 n x1 x2.1 (decide (x2.1 = 2)) x2
      else
        L_impl_GoodAtom_1_7 n x1 x2.1 (decide (x2.1 = 5)) x2 := by kernel_rfl
theorem L_impl_GoodAtom_1_7_eq (n : Nat) (x1 : Bool) (x2 : Int) (x3 : Bool) (x4 : DAtom) : L_impl_GoodAtom_1_7 (n + 1) x1 x2 x3 x4 =
    bif x3 then
      some x1
    else
      bif decide (x2 = 3) then
        bif decide (x4.2.1 = 0) then
          bif decide (x4.2.2.2 = ([] : List Int)) then
            Option.bind (P_impl_yprinted x4.2.2.1 0 200) fun (y1 : Bool) =>
            some y1
          else
            some false
        else
          some false
      else
        bif decide (x2 = 4) then
          bif decide (x4.2.1 = 0) then
            Option.bind (P_impl_GoodName x4.2.2.2) fun (y2 : Bool) =>
            bif y2 then
              Option.bind (P_impl_yprinted x4.2.2.1 1 200) fun (y3 : Bool) =>
              some y3
            else
              some false
          else
            some false
        else
          bif decide (x2 = 6) then
            bif !(x1) then
              some false
            else
              bif decide (x4.2.1 < 0) then
                some false
              else
                bif decide (Int.tmod x4.2.1 64 ≤ 32) then
                  bif decide (IntKind.wrap .i64 (Int.tdiv x4.2.1 64) < 4294967296) then
                    bif decide ((0 : Int) ≤ IntKind.wrap .i64 (32 - (Int.tmod x4.2.1 64))) then
                      bif decide (IntKind.wrap .i64 (1 * 2 ^ (min (Int.toNat (IntKind.wrap .i64 (32 - (Int.tmod x4.2.1 64)))) 64)) = 0) then none else
                      some (decide (Int.tmod (IntKind.wrap .i64 (Int.tdiv x4.2.1 64)) (IntKind.wrap .i64 (1 * 2 ^ (min (Int.toNat (IntKind.wrap .i64 (32 - (Int.tmod x4.2.1 64)))) 64))) = 0))
                    else none
                  else
                    some false
                else
                  some false
          else
            bif decide (x2 = 7) then
              bif x1 then
                bif decide (((-100000000000) : Int) ≤ x4.2.1) then
                  some (decide (x4.2.1 ≤ 100000000000))
                else
                  some false
              else
                some false
            else
              some false := by kernel_rfl
theorem S_impl_GoodAtom_1_7 {x1 : Bool} {x2 : Int} {x3 : Bool} {x4 : DAtom} {r : Bool} (h : P_impl_GoodAtom_1_7 x1 x2 x3 x4 = some r) : Ev (fun n => L_impl_GoodAtom_1_7 n x1 x2 x3 x4) r := by
  rw [P_impl_GoodAtom_1_7] at h
  refine Ev.step ?_ (fun n => L_impl_GoodAtom_1_7_eq n x1 x2 x3 x4)
  exact (Ev.ofBif h (fun h => (Ev.ofSome h)) (fun h => (Ev.ofBif h (fun h => (Ev.ofBif h (fun h => (Ev.ofBif h (fun h => (Ev.ofBind h fun y1 h => (Ev.ofSome h))) (fun h => (Ev.ofSome h)))) (fun h => (Ev.ofSome h)))) (fun h => (Ev.ofBif h (fun h => (Ev.ofBif h (fun h => (Ev.ofBind h fun y2 h => (Ev.ofBif h (fun h => (Ev.ofBind h fun y3 h => (Ev.ofSome h))) (fun h => (Ev.ofSome h))))) (fun h => (Ev.ofSome h)))) (fun h => (Ev.ofBif h (fun h => (Ev.ofBif h (fun h => (Ev.ofSome h)) (fun h => (Ev.ofBif h (fun h => (Ev.ofSome h)) (fun h => (Ev.ofBif h (fun h => (Ev.ofBif h (fun h => (Ev.ofBif h (fun h => (Ev.ofBif h (fun h => (Ev.ofNone h)) (fun h => (Ev.ofSome h)))) (fun h => (Ev.ofNone h)))) (fun h => (Ev.ofSome h)))) (fun h => (Ev.ofSome h)))))))) (fun h => (Ev.ofBif h (fun h => (Ev.ofBif h (fun h => (Ev.ofBif h (fun h => (Ev.ofSome h)) (fun h => (Ev.ofSome h)))) (fun h => (Ev.ofSome h)))) (fun h => (Ev.ofSome h)))))))))))
theorem S_impl_GoodAtom_1_2 {x1 : Bool} {x2 : DAtom} {r : Bool} (h : P_impl_GoodAtom_1_2 x1 x2 = some r) : Ev (fun n => L_impl_GoodAtom_1_2 n x1 x2) r := by
  rw [P_impl_GoodAtom_1_2] at h
  refine Ev.step ?_ (fun n => L_impl_GoodAtom_1_2_eq n x1 x2)
  exact (Ev.ofBif h (fun h => (Ev.ofBif h (fun h => (Ev.ofBif h (fun h => (Ev.ofSome h)) (fun h => (Ev.ofSome h)))) (fun h => (Ev.ofSome h)))) (fun h => (Ev.ofBif h (fun h => (S_impl_GoodAtom_1_7 h)) (fun h => (S_impl_GoodAtom_1_7 h)))))
theorem S_impl_GoodAtom (a0 : DAtom) {r : Bool} (h : P_impl_GoodAtom a0 = some r) : Ev (fun n => F_impl_GoodAtom n a0) r := by
  rw [P_impl_GoodAtom] at h
  refine Ev.of_eq ?_ (fun n => F_impl_GoodAtom_eq n a0)
  exact (Ev.ofBif h (fun h => (S_impl_GoodAtom_1_2 h)) (fun h => (S_impl_GoodAtom_1_2 h)))
theorem hcs_impl_GoodAtom : ∀ x ∈ cs_impl_GoodAtom, CtrOk Try.prog x := (conOf_cons ok_impl_yprinted (conOf_cons ok_impl_GoodName conOf_nil))
theorem ok_impl_GoodAtom : CtrOk Try.prog c_impl_GoodAtom := by
  refine ctr_of_run (c := c_impl_GoodAtom) (by kernel_rfl : Try.prog.funcs[92]? = some Try.f92) (code := Try.f92.body.getD .skip) (by kernel_rfl) (by kernel_rfl) (by kernel_rfl) (A := A_impl_GoodAtom) (I := In_impl_GoodAtom) hcs_impl_GoodAtom ?_
  rintro ⟨a0, u⟩ y hy
  exact (S_impl_GoodAtom a0 hy).get

/-! ## impl.ygoodRef (37) -/
noncomputable def P_impl_ygoodRef (a0 : DAtom) : Option Bool :=
  bif decide (a0.1 = 4) then
    Option.bind (P_impl_GoodAtom a0) fun (y1 : Bool) =>
    some y1
  else
    some false
noncomputable def c_impl_ygoodRef : Ctr := ⟨37, [TyAtom], [.bool], fun x => P_impl_ygoodRef x.1⟩
def A_impl_ygoodRef : List (List Nat × Ann) := []
def In_impl_ygoodRef : List (List Nat × Nat) := []
noncomputable def cs_impl_ygoodRef : List Ctr := [c_impl_GoodAtom]
noncomputable def F_impl_ygoodRef (n : Nat) (a0 : DAtom) : Option Bool := run Try.prog A_impl_ygoodRef In_impl_ygoodRef (conOf cs_impl_ygoodRef) Try.f37 (Try.f37.body.getD .skip) (packT [.bool]) n (argsV [TyAtom] (a0, ()))
theorem F_impl_ygoodRef_eq (n : Nat) (a0 : DAtom) : F_impl_ygoodRef n a0 =
    bif decide (a0.1 = 4) then
      Option.bind (P_impl_GoodAtom a0) fun (y1 : Bool) =>
      some y1
    else
      some false := by kernel_rfl
theorem S_impl_ygoodRef (a0 : DAtom) {r : Bool} (h : P_impl_ygoodRef a0 = some r) : Ev (fun n => F_impl_ygoodRef n a0) r := by
  rw [P_impl_ygoodRef] at h
  refine Ev.of_eq ?_ (fun n => F_impl_ygoodRef_eq n a0)
  exact (Ev.ofBif h (fun h => (Ev.ofBind h fun y1 h => (Ev.ofSome h))) (fun h => (Ev.ofSome h)))
theorem hcs_impl_ygoodRef : ∀ x ∈ cs_impl_ygoodRef, CtrOk Try.prog x := (conOf_cons ok_impl_GoodAtom conOf_nil)
theorem ok_impl_ygoodRef : CtrOk Try.prog c_impl_ygoodRef := by
  refine ctr_of_run (c := c_impl_ygoodRef) (by kernel_rfl : Try.prog.funcs[37]? = some Try.f37) (code := Try.f37.body.getD .skip) (by kernel_rfl) (by kernel_rfl) (by kernel_rfl) (A := A_impl_ygoodRef) (I := In_impl_ygoodRef) hcs_impl_ygoodRef ?_
  rintro ⟨a0, u⟩ y hy
  exact (S_impl_ygoodRef a0 hy).get

/-! ## cmp.isNaN[int] (164) -/
def T_cmp_isNaN_int (a0 : Int) : Bool :=
  !decide (a0 = a0)
noncomputable def c_cmp_isNaN_int : Ctr := ⟨164, [I64], [.bool], fun x => some (T_cmp_isNaN_int x.1)⟩
def A_cmp_isNaN_int : List (List Nat × Ann) := []
def In_cmp_isNaN_int : List (List Nat × Nat) := []
noncomputable def cs_cmp_isNaN_int : List Ctr := []
noncomputable def F_cmp_isNaN_int (n : Nat) (a0 : Int) : Option Bool := run Try.prog A_cmp_isNaN_int In_cmp_isNaN_int (conOf cs_cmp_isNaN_int) Try.f164 (Try.f164.body.getD .skip) (packT [.bool]) n (argsV [I64] (a0, ()))
theorem F_cmp_isNaN_int_eq (n : Nat) (a0 : Int) : F_cmp_isNaN_int n a0 =
    some (!decide (a0 = a0)) := by kernel_rfl
theorem S_cmp_isNaN_int (n : Nat) (a0 : Int) : F_cmp_isNaN_int n a0 = some (T_cmp_isNaN_int a0) := (F_cmp_isNaN_int_eq n a0).trans rfl
theorem hcs_cmp_isNaN_int : ∀ x ∈ cs_cmp_isNaN_int, CtrOk Try.prog x := conOf_nil
theorem ok_cmp_isNaN_int : CtrOk Try.prog c_cmp_isNaN_int := by
  refine ctr_of_run (c := c_cmp_isNaN_int) (by kernel_rfl : Try.prog.funcs[164]? = some Try.f164) (code := Try.f164.body.getD .skip) (by kernel_rfl) (by kernel_rfl) (by kernel_rfl) (A := A_cmp_isNaN_int) (I := In_cmp_isNaN_int) hcs_cmp_isNaN_int ?_
  rintro ⟨a0, u⟩ y hy
  exact ⟨0, (S_cmp_isNaN_int 0 a0).trans hy⟩

/-! ## cmp.Compare[int] (141) -/
def T_cmp_Compare_int (a0 : Int) (a1 : Int) : Int :=
  bif T_cmp_isNaN_int a0 then
    bif T_cmp_isNaN_int a1 then
      0
    else
      (-1)
  else
    bif T_cmp_isNaN_int a1 then
      1
    else
      bif decide (a0 < a1) then
        (-1)
      else
        bif decide (a1 < a0) then
          1
        else
          0
noncomputable def c_cmp_Compare_int : Ctr := ⟨141, [I64, I64], [I64], fun x => some (T_cmp_Compare_int x.1 x.2.1)⟩
def A_cmp_Compare_int : List (List Nat × Ann) := []
def In_cmp_Compare_int : List (List Nat × Nat) := []
noncomputable def cs_cmp_Compare_int : List Ctr := [c_cmp_isNaN_int]
noncomputable def F_cmp_Compare_int (n : Nat) (a0 : Int) (a1 : Int) : Option Int := run Try.prog A_cmp_Compare_int In_cmp_Compare_int (conOf cs_cmp_Compare_int) Try.f141 (Try.f141.body.getD .skip) (packT [I64]) n (argsV [I64, I64] (a0, a1, ()))
theorem F_cmp_Compare_int_eq (n : Nat) (a0 : Int) (a1 : Int) : F_cmp_Compare_int n a0 a1 =
    bif T_cmp_isNaN_int a0 then
      bif T_cmp_isNaN_int a1 then
        some 0
      else
        some (-1)
    else
      bif T_cmp_isNaN_int a1 then
        some 1
      else
        bif decide (a0 < a1) then
          some (-1)
        else
          bif decide (a1 < a0) then
            some 1
          else
            some 0 := by kernel_rfl
theorem S_cmp_Compare_int (n : Nat) (a0 : Int) (a1 : Int) : F_cmp_Compare_int n a0 a1 = some (T_cmp_Compare_int a0 a1) := (F_cmp_Compare_int_eq n a0 a1).trans (cond_some (cond_some rfl rfl) (cond_some rfl (cond_some rfl (cond_some rfl rfl))))
theorem hcs_cmp_Compare_int : ∀ x ∈ cs_cmp_Compare_int, CtrOk Try.prog x := (conOf_cons ok_cmp_isNaN_int conOf_nil)
theorem ok_cmp_Compare_int : CtrOk Try.prog c_cmp_Compare_int := by
  refine ctr_of_run (c := c_cmp_Compare_int) (by kernel_rfl : Try.prog.funcs[141]? = some Try.f141) (code := Try.f141.body.getD .skip) (by kernel_rfl) (by kernel_rfl) (by kernel_rfl) (A := A_cmp_Compare_int) (I := In_cmp_Compare_int) hcs_cmp_Compare_int ?_
  rintro ⟨a0, a1, u⟩ y hy
  exact ⟨0, (S_cmp_Compare_int 0 a0 a1).trans hy⟩

/-! ## cmp.isNaN[string] (165) -/
def T_cmp_isNaN_string (a0 : (List Int)) : Bool :=
  !decide (a0 = a0)
noncomputable def c_cmp_isNaN_string : Ctr := ⟨165, [.str], [.bool], fun x => some (T_cmp_isNaN_string x.1)⟩
def A_cmp_isNaN_string : List (List Nat × Ann) := []
def In_cmp_isNaN_string : List (List Nat × Nat) := []
noncomputable def cs_cmp_isNaN_string : List Ctr := []
noncomputable def F_cmp_isNaN_string (n : Nat) (a0 : (List Int)) : Option Bool := run Try.prog A_cmp_isNaN_string In_cmp_isNaN_string (conOf cs_cmp_isNaN_string) Try.f165 (Try.f165.body.getD .skip) (packT [.bool]) n (argsV [.str] (a0, ()))
theorem F_cmp_isNaN_string_eq (n : Nat) (a0 : (List Int)) : F_cmp_isNaN_string n a0 =
    some (!decide (a0 = a0)) := by kernel_rfl
theorem S_cmp_isNaN_string (n : Nat) (a0 : (List Int)) : F_cmp_isNaN_string n a0 = some (T_cmp_isNaN_string a0) := (F_cmp_isNaN_string_eq n a0).trans rfl
theorem hcs_cmp_isNaN_string : ∀ x ∈ cs_cmp_isNaN_string, CtrOk Try.prog x := conOf_nil
theorem ok_cmp_isNaN_string : CtrOk Try.prog c_cmp_isNaN_string := by
  refine ctr_of_run (c := c_cmp_isNaN_string) (by kernel_rfl : Try.prog.funcs[165]? = some Try.f165) (code := Try.f165.body.getD .skip) (by kernel_rfl) (by kernel_rfl) (by kernel_rfl) (A := A_cmp_isNaN_string) (I := In_cmp_isNaN_string) hcs_cmp_isNaN_string ?_
  rintro ⟨a0, u⟩ y hy
  exact ⟨0, (S_cmp_isNaN_string 0 a0).trans hy⟩

/-! ## cmp.Compare[string] (142) -/
def T_cmp_Compare_string (a0 : (List Int)) (a1 : (List Int)) : Int :=
  bif T_cmp_isNaN_string a0 then
    bif T_cmp_isNaN_string a1 then
      0
    else
      (-1)
  else
    bif T_cmp_isNaN_string a1 then
      1
    else
      bif lessI a0 a1 then
        (-1)
      else
        bif lessI a1 a0 then
          1
        else
          0
noncomputable def c_cmp_Compare_string : Ctr := ⟨142, [.str, .str], [I64], fun x => some (T_cmp_Compare_string x.1 x.2.1)⟩
def A_cmp_Compare_string : List (List Nat × Ann) := []
def In_cmp_Compare_string : List (List Nat × Nat) := []
noncomputable def cs_cmp_Compare_string : List Ctr := [c_cmp_isNaN_string]
noncomputable def F_cmp_Compare_string (n : Nat) (a0 : (List Int)) (a1 : (List Int)) : Option Int := run Try.prog A_cmp_Compare_string In_cmp_Compare_string (conOf cs_cmp_Compare_string) Try.f142 (Try.f142.body.getD .skip) (packT [I64]) n (argsV [.str, .str] (a0, a1, ()))
theorem F_cmp_Compare_string_eq (n : Nat) (a0 : (List Int)) (a1 : (List Int)) : F_cmp_Compare_string n a0 a1 =
    bif T_cmp_isNaN_string a0 then
      bif T_cmp_isNaN_string a1 then
        some 0
      else
        some (-1)
    else
      bif T_cmp_isNaN_string a1 then
        some 1
      else
        bif lessI a0 a1 then
          some (-1)
        else
          bif lessI a1 a0 then
            some 1
          else
            some 0 := by kernel_rfl
theorem S_cmp_Compare_string (n : Nat) (a0 : (List Int)) (a1 : (List Int)) : F_cmp_Compare_string n a0 a1 = some (T_cmp_Compare_string a0 a1) := (F_cmp_Compare_string_eq n a0 a1).trans (cond_some (cond_some rfl rfl) (cond_some rfl (cond_some rfl (cond_some rfl rfl))))
theorem hcs_cmp_Compare_string : ∀ x ∈ cs_cmp_Compare_string, CtrOk Try.prog x := (conOf_cons ok_cmp_isNaN_string conOf_nil)
theorem ok_cmp_Compare_string : CtrOk Try.prog c_cmp_Compare_string := by
  refine ctr_of_run (c := c_cmp_Compare_string) (by kernel_rfl : Try.prog.funcs[142]? = some Try.f142) (code := Try.f142.body.getD .skip) (by kernel_rfl) (by kernel_rfl) (by kernel_rfl) (A := A_cmp_Compare_string) (I := In_cmp_Compare_string) hcs_cmp_Compare_string ?_
  rintro ⟨a0, a1, u⟩ y hy
  exact ⟨0, (S_cmp_Compare_string 0 a0 a1).trans hy⟩

/-! ## cmp.Or[int] (140) -/
noncomputable def P_cmp_Or_int_0_3 : List Int → Option Int
  | [] =>
      some (0 : Int)
  | e :: rest =>
      bif !decide (e = (0 : Int)) then
        some e
      else
        P_cmp_Or_int_0_3 rest
noncomputable def P_cmp_Or_int (a0 : (List Int)) : Option Int :=
  lenOk a0 (P_cmp_Or_int_0_3 a0)
noncomputable def c_cmp_Or_int : Ctr := ⟨140, [(.list I64)], [I64], fun x => P_cmp_Or_int x.1⟩
def A_cmp_Or_int : List (List Nat × Ann) := [([0, 3], [.keep 0 3, .keep 0 6, .keep 0 7, .keep 0 8])]
def In_cmp_Or_int : List (List Nat × Nat) := []
noncomputable def cs_cmp_Or_int : List Ctr := []
noncomputable def F_cmp_Or_int (n : Nat) (a0 : (List Int)) : Option Int := run Try.prog A_cmp_Or_int In_cmp_Or_int (conOf cs_cmp_Or_int) Try.f140 (Try.f140.body.getD .skip) (packT [I64]) n (argsV [(.list I64)] (a0, ()))
noncomputable abbrev L_cmp_Or_int_0_3 (n : Nat) (x1 : Int) (x2 : (List Int)) (x3 : Int) (x4 : Int) : Option Int := lam Try.prog A_cmp_Or_int In_cmp_Or_int (conOf cs_cmp_Or_int) Try.f140 (Try.f140.body.getD .skip) (packT [I64]) n [0, 3] [.d I64 x1, .d (.list I64) x2, .d I64 x3, .d I64 x4]
theorem F_cmp_Or_int_eq (n : Nat) (a0 : (List Int)) : F_cmp_Or_int n a0 =
    L_cmp_Or_int_0_3 n 0 a0 (a0.length : Int) 0 := by kernel_rfl
theorem L_cmp_Or_int_0_3_eq (n : Nat) (x1 : Int) (x2 : (List Int)) (x3 : Int) (x4 : Int) : L_cmp_Or_int_0_3 (n + 1) x1 x2 x3 x4 =
    bif decide (x4 < x3) then
      bif inB x4 x2.length then
        bif !decide (rd x2 x4 (Ty.dflt I64) = x1) then
          some (rd x2 x4 (Ty.dflt I64))
        else
          L_cmp_Or_int_0_3 n x1 x2 x3 (IntKind.wrap .i64 (x4 + 1))
      else none
    else
      some x1 := by kernel_rfl
theorem S_cmp_Or_int_0_3 {x2 : (List Int)} (hl : x2.length ≤ maxLen) : ∀ (rest : List Int) (k : Nat) (r : Int), rest = x2.drop k → P_cmp_Or_int_0_3 rest = some r → Ev (fun n => L_cmp_Or_int_0_3 n (0 : Int) x2 (x2.length : Int) (k : Int)) r := by
  intro rest
  induction rest with
  | nil =>
    intro k r hr h
    have hk := drop_nil hr
    rw [P_cmp_Or_int_0_3] at h
    refine Ev.step ?_ (fun n => L_cmp_Or_int_0_3_eq n (0 : Int) x2 (x2.length : Int) (k : Int))
    rw [show decide ((k : Int) < (x2.length : Int)) = false from decide_eq_false (by omega)]
    exact Ev.neg rfl (Ev.ofSome h)
  | cons e rest ih =>
    intro k r hr h
    obtain ⟨hk, hx, hr2⟩ := drop_cons (d := (Ty.dflt I64)) hr
    have hw := wrap_succ hl hk
    have ih2 : ∀ (r : Int), P_cmp_Or_int_0_3 rest = some r → Ev (fun n => L_cmp_Or_int_0_3 n (0 : Int) x2 (x2.length : Int) (IntKind.wrap .i64 ((k : Int) + 1))) r := by
      intro r h; rw [hw]; exact ih (k + 1) r hr2 h
    rw [P_cmp_Or_int_0_3] at h
    refine Ev.step ?_ (fun n => L_cmp_Or_int_0_3_eq n (0 : Int) x2 (x2.length : Int) (k : Int))
    rw [show decide ((k : Int) < (x2.length : Int)) = true from decide_eq_true (by omega), inB_nat2 hk, hx]
    exact Ev.pos rfl (Ev.pos rfl (Ev.ofBif h (fun h => (Ev.ofSome h)) (fun h => (ih2  _ h))))
theorem S_cmp_Or_int (a0 : (List Int)) {r : Int} (h : P_cmp_Or_int a0 = some r) : Ev (fun n => F_cmp_Or_int n a0) r := by
  rw [P_cmp_Or_int] at h
  refine Ev.of_eq ?_ (fun n => F_cmp_Or_int_eq n a0)
  exact (Ev.ofLen h fun hl h => S_cmp_Or_int_0_3 hl _ (0 : Nat) _ rfl h)
theorem hcs_cmp_Or_int : ∀ x ∈ cs_cmp_Or_int, CtrOk Try.prog x := conOf_nil
theorem ok_cmp_Or_int : CtrOk Try.prog c_cmp_Or_int := by
  refine ctr_of_run (c := c_cmp_Or_int) (by kernel_rfl : Try.prog.funcs[140]? = some Try.f140) (code := Try.f140.body.getD .skip) (by kernel_rfl) (by kernel_rfl) (by kernel_rfl) (A := A_cmp_Or_int) (I := In_cmp_Or_int) hcs_cmp_Or_int ?_
  rintro ⟨a0, u⟩ y hy
  exact (S_cmp_Or_int a0 hy).get

/-! ## impl.ycmpAtom (87) -/
noncomputable def P_impl_ycmpAtom (a0 : DAtom) (a1 : DAtom) : Option Int :=
  Option.bind (P_cmp_Or_int ([T_cmp_Compare_int a0.1 a1.1, T_cmp_Compare_int a0.2.1 a1.2.1, T_cmp_Compare_string a0.2.2.2 a1.2.2.2, T_cmp_Compare_string a0.2.2.1 a1.2.2.1] : List Int)) fun (y1 : Int) =>
  some y1
noncomputable def c_impl_ycmpAtom : Ctr := ⟨87, [TyAtom, TyAtom], [I64], fun x => P_impl_ycmpAtom x.1 x.2.1⟩
def A_impl_ycmpAtom : List (List Nat × Ann) := []
def In_impl_ycmpAtom : List (List Nat × Nat) := []
noncomputable def cs_impl_ycmpAtom : List Ctr := [c_cmp_Compare_int, c_cmp_Compare_string, c_cmp_Or_int]
noncomputable def F_impl_ycmpAtom (n : Nat) (a0 : DAtom) (a1 : DAtom) : Option Int := run Try.prog A_impl_ycmpAtom In_impl_ycmpAtom (conOf cs_impl_ycmpAtom) Try.f87 (Try.f87.body.getD .skip) (packT [I64]) n (argsV [TyAtom, TyAtom] (a0, a1, ()))
theorem F_impl_ycmpAtom_eq (n : Nat) (a0 : DAtom) (a1 : DAtom) : F_impl_ycmpAtom n a0 a1 =
    Option.bind (P_cmp_Or_int ([T_cmp_Compare_int a0.1 a1.1, T_cmp_Compare_int a0.2.1 a1.2.1, T_cmp_Compare_string a0.2.2.2 a1.2.2.2, T_cmp_Compare_string a0.2.2.1 a1.2.2.1] : List Int)) fun (y1 : Int) =>
    some y1 := by kernel_rfl
theorem S_impl_ycmpAtom (a0 : DAtom) (a1 : DAtom) {r : Int} (h : P_impl_ycmpAtom a0 a1 = some r) : Ev (fun n => F_impl_ycmpAtom n a0 a1) r := by
  rw [P_impl_ycmpAtom] at h
  refine Ev.of_eq ?_ (fun n => F_impl_ycmpAtom_eq n a0 a1)
  exact (Ev.ofBind h fun y1 h => (Ev.ofSome h))
theorem hcs_impl_ycmpAtom : ∀ x ∈ cs_impl_ycmpAtom, CtrOk Try.prog x := (conOf_cons ok_cmp_Compare_int (conOf_cons ok_cmp_Compare_string (conOf_cons ok_cmp_Or_int conOf_nil)))
theorem ok_impl_ycmpAtom : CtrOk Try.prog c_impl_ycmpAtom := by
  refine ctr_of_run (c := c_impl_ycmpAtom) (by kernel_rfl : Try.prog.funcs[87]? = some Try.f87) (code := Try.f87.body.getD .skip) (by kernel_rfl) (by kernel_rfl) (by kernel_rfl) (A := A_impl_ycmpAtom) (I := In_impl_ycmpAtom) hcs_impl_ycmpAtom ?_
  rintro ⟨a0, a1, u⟩ y hy
  exact (S_impl_ycmpAtom a0 a1 hy).get

/-! ## impl.yrisingAtoms (143) -/
noncomputable def P_impl_yrisingAtoms_0_2 (x1 : (List DAtom)) : List DAtom → Nat → Option Bool
  | [], k =>
      some true
  | e :: rest, k =>
      Option.bind (P_impl_GoodAtom (e)) fun (y1 : Bool) =>
      bif !(y1) then
        some false
      else
        bif decide ((0 : Int) < (k : Int)) then
          bif inB (IntKind.wrap .i64 ((k : Int) - 1)) x1.length then
            Option.bind (P_impl_ycmpAtom (rd x1 (IntKind.wrap .i64 ((k : Int) - 1)) (Ty.dflt TyAtom)) (e)) fun (y2 : Int) =>
            bif decide ((0 : Int) ≤ y2) then
              some false
            else
              P_impl_yrisingAtoms_0_2 x1 rest (k + 1)
          else none
        else
          P_impl_yrisingAtoms_0_2 x1 rest (k + 1)
noncomputable def P_impl_yrisingAtoms (a0 : (List DAtom)) : Option Bool :=
  lenOk a0 (P_impl_yrisingAtoms_0_2 a0 a0 0)
noncomputable def c_impl_yrisingAtoms : Ctr := ⟨143, [(.list TyAtom)], [.bool], fun x => P_impl_yrisingAtoms x.1⟩
def A_impl_yrisingAtoms : List (List Nat × Ann) := [([0, 2], [.keep 0 0, .keep 0 5, .keep 0 6, .keep 0 7])]
def In_impl_yrisingAtoms : List (List Nat × Nat) := []
noncomputable def cs_impl_yrisingAtoms : List Ctr := [c_impl_GoodAtom, c_impl_ycmpAtom]
noncomputable def F_impl_yrisingAtoms (n : Nat) (a0 : (List DAtom)) : Option Bool := run Try.prog A_impl_yrisingAtoms In_impl_yrisingAtoms (conOf cs_impl_yrisingAtoms) Try.f143 (Try.f143.body.getD .skip) (packT [.bool]) n (argsV [(.list TyAtom)] (a0, ()))
noncomputable abbrev L_impl_yrisingAtoms_0_2 (n : Nat) (x1 : (List DAtom)) (x2 : (List DAtom)) (x3 : Int) (x4 : Int) : Option Bool := lam Try.prog A_impl_yrisingAtoms In_impl_yrisingAtoms (conOf cs_impl_yrisingAtoms) Try.f143 (Try.f143.body.getD .skip) (packT [.bool]) n [0, 2] [.d (.list TyAtom) x1, .d (.list TyAtom) x2, .d I64 x3, .d I64 x4]
theorem F_impl_yrisingAtoms_eq (n : Nat) (a0 : (List DAtom)) : F_impl_yrisingAtoms n a0 =
    L_impl_yrisingAtoms_0_2 n a0 a0 (a0.length : Int) 0 := by kernel_rfl
theorem L_impl_yrisingAtoms_0_2_eq (n : Nat) (x1 : (List DAtom)) (x2 : (List DAtom)) (x3 : Int) (x4 : Int) : L_impl_yrisingAtoms_0_2 (n + 1) x1 x2 x3 x4 =
    bif decide (x4 < x3) then
      bif inB x4 x2.length then
        Option.bind (P_impl_GoodAtom (rd x2 x4 (Ty.dflt TyAtom))) fun (y1 : Bool) =>
        bif !(y1) then
          some false
        else
          bif decide ((0 : Int) < x4) then
            bif inB (IntKind.wrap .i64 (x4 - 1)) x1.length then
              Option.bind (P_impl_ycmpAtom (rd x1 (IntKind.wrap .i64 (x4 - 1)) (Ty.dflt TyAtom)) (rd x2 x4 (Ty.dflt TyAtom))) fun (y2 : Int) =>
              bif decide ((0 : Int) ≤ y2) then
                some false
              else
                L_impl_yrisingAtoms_0_2 n x1 x2 x3 (IntKind.wrap .i64 (x4 + 1))
            else none
          else
            L_impl_yrisingAtoms_0_2 n x1 x2 x3 (IntKind.wrap .i64 (x4 + 1))
      else none
    else
      some true := by kernel_rfl
theorem S_impl_yrisingAtoms_0_2 {x1 : (List DAtom)} (hl : x1.length ≤ maxLen) : ∀ (rest : List DAtom) (k : Nat) (r : Bool), rest = x1.drop k → P_impl_yrisingAtoms_0_2 x1 rest k = some r → Ev (fun n => L_impl_yrisingAtoms_0_2 n x1 x1 (x1.length : Int) (k : Int)) r := by
  intro rest
  induction rest with
  | nil =>
    intro k r hr h
    have hk := drop_nil hr
    rw [P_impl_yrisingAtoms_0_2] at h
    refine Ev.step ?_ (fun n => L_impl_yrisingAtoms_0_2_eq n x1 x1 (x1.length : Int) (k : Int))
    rw [show decide ((k : Int) < (x1.length : Int)) = false from decide_eq_false (by omega)]
    exact Ev.neg rfl (Ev.ofSome h)
  | cons e rest ih =>
    intro k r hr h
    obtain ⟨hk, hx, hr2⟩ := drop_cons (d := (Ty.dflt TyAtom)) hr
    have hw := wrap_succ hl hk
    have ih2 : ∀ (r : Bool), P_impl_yrisingAtoms_0_2 x1 rest (k + 1) = some r → Ev (fun n => L_impl_yrisingAtoms_0_2 n x1 x1 (x1.length : Int) (IntKind.wrap .i64 ((k : Int) + 1))) r := by
      intro r h; rw [hw]; exact ih (k + 1) r hr2 h
    rw [P_impl_yrisingAtoms_0_2] at h
    refine Ev.step ?_ (fun n => L_impl_yrisingAtoms_0_2_eq n x1 x1 (x1.length : Int) (k : Int))
    rw [show decide ((k : Int) < (x1.length : Int)) = true from decide_eq_true (by omega), inB_nat2 hk, hx]
    exact Ev.pos rfl (Ev.pos rfl (Ev.ofBind h fun y1 h => (Ev.ofBif h (fun h => (Ev.ofSome h)) (fun h => (Ev.ofBif h (fun h => (Ev.ofBif h (fun h => (Ev.ofBind h fun y2 h => (Ev.ofBif h (fun h => (Ev.ofSome h)) (fun h => (ih2  _ h))))) (fun h => (Ev.ofNone h)))) (fun h => (ih2  _ h)))))))
theorem S_impl_yrisingAtoms (a0 : (List DAtom)) {r : Bool} (h : P_impl_yrisingAtoms a0 = some r) : Ev (fun n => F_impl_yrisingAtoms n a0) r := by
  rw [P_impl_yrisingAtoms] at h
  refine Ev.of_eq ?_ (fun n => F_impl_yrisingAtoms_eq n a0)
  exact (Ev.ofLen h fun hl h => S_impl_yrisingAtoms_0_2 hl _ (0 : Nat) _ rfl h)
theorem hcs_impl_yrisingAtoms : ∀ x ∈ cs_impl_yrisingAtoms, CtrOk Try.prog x := (conOf_cons ok_impl_GoodAtom (conOf_cons ok_impl_ycmpAtom conOf_nil))
theorem ok_impl_yrisingAtoms : CtrOk Try.prog c_impl_yrisingAtoms := by
  refine ctr_of_run (c := c_impl_yrisingAtoms) (by kernel_rfl : Try.prog.funcs[143]? = some Try.f143) (code := Try.f143.body.getD .skip) (by kernel_rfl) (by kernel_rfl) (by kernel_rfl) (A := A_impl_yrisingAtoms) (I := In_impl_yrisingAtoms) hcs_impl_yrisingAtoms ?_
  rintro ⟨a0, u⟩ y hy
  exact (S_impl_yrisingAtoms a0 hy).get

/-! ## impl.ygoodRefs (88) -/
noncomputable def P_impl_ygoodRefs_0_2_1002_1010 : List DAtom → Nat → Option Bool
  | [], k =>
      some true
  | e :: rest, k =>
      bif !decide ((e).1 = 4) then
        some (!decide ((0 : Int) ≤ (k : Int)))
      else
        P_impl_ygoodRefs_0_2_1002_1010 rest (k + 1)
noncomputable def P_impl_ygoodRefs (a0 : (List DAtom)) (a1 : Int) : Option Bool :=
  bif decide ((a0.length : Int) ≤ a1) then
    Option.bind (P_impl_yrisingAtoms a0) fun (y1 : Bool) =>
    bif y1 then
      lenOk a0 (P_impl_ygoodRefs_0_2_1002_1010 a0 0)
    else
      some false
  else
    some false
noncomputable def c_impl_ygoodRefs : Ctr := ⟨88, [(.list TyAtom), I64], [.bool], fun x => P_impl_ygoodRefs x.1 x.2.1⟩
def A_impl_ygoodRefs : List (List Nat × Ann) := [([0, 2, 1002, 1010], [.keep 0 13, .keep 2 0, .keep 2 1, .keep 2 7, .keep 2 8])]
def In_impl_ygoodRefs : List (List Nat × Nat) := [([1010], 144), ([1002, 1010], 166), ([4005, 1002, 1010], 145)]
noncomputable def cs_impl_ygoodRefs : List Ctr := [c_impl_yrisingAtoms]
noncomputable def F_impl_ygoodRefs (n : Nat) (a0 : (List DAtom)) (a1 : Int) : Option Bool := run Try.prog A_impl_ygoodRefs In_impl_ygoodRefs (conOf cs_impl_ygoodRefs) Try.f88 (Try.f88.body.getD .skip) (packT [.bool]) n (argsV [(.list TyAtom), I64] (a0, a1, ()))
noncomputable abbrev L_impl_ygoodRefs_0_2_1002_1010 (n : Nat) (x1 : Bool) (x2 : (List DAtom)) (x3 : Int) (x4 : Int) : Option Bool := lam Try.prog A_impl_ygoodRefs In_impl_ygoodRefs (conOf cs_impl_ygoodRefs) Try.f88 (Try.f88.body.getD .skip) (packT [.bool]) n [0, 2, 1002, 1010] [.d .bool x1, .d (.list TyAtom) x2, .fn 145 [], .d I64 x3, .d I64 x4]
theorem F_impl_ygoodRefs_eq (n : Nat) (a0 : (List DAtom)) (a1 : Int) : F_impl_ygoodRefs n a0 a1 =
    bif decide ((a0.length : Int) ≤ a1) then
      Option.bind (P_impl_yrisingAtoms a0) fun (y1 : Bool) =>
      bif y1 then
        L_impl_ygoodRefs_0_2_1002_1010 n true a0 (a0.length : Int) 0
      else
        some false
    else
      some false := by kernel_rfl
theorem L_impl_ygoodRefs_0_2_1002_1010_eq (n : Nat) (x1 : Bool) (x2 : (List DAtom)) (x3 : Int) (x4 : Int) : L_impl_ygoodRefs_0_2_1002_1010 (n + 1) x1 x2 x3 x4 =
    bif decide (x4 < x3) then
      bif inB x4 x2.length then
        bif !decide ((rd x2 x4 (Ty.dflt TyAtom)).1 = 4) then
          bif x1 then
            some (!decide ((0 : Int) ≤ x4))
          else
            some false
        else
          L_impl_ygoodRefs_0_2_1002_1010 n x1 x2 x3 (IntKind.wrap .i64 (x4 + 1))
      else none
    else
      bif x1 then
        some true
      else
        some false := by kernel_rfl
theorem S_impl_ygoodRefs_0_2_1002_1010 {x2 : (List DAtom)} (hl : x2.length ≤ maxLen) : ∀ (rest : List DAtom) (k : Nat) (r : Bool), rest = x2.drop k → P_impl_ygoodRefs_0_2_1002_1010 rest k = some r → Ev (fun n => L_impl_ygoodRefs_0_2_1002_1010 n true x2 (x2.length : Int) (k : Int)) r := by
  intro rest
  induction rest with
  | nil =>
    intro k r hr h
    have hk := drop_nil hr
    rw [P_impl_ygoodRefs_0_2_1002_1010] at h
    refine Ev.step ?_ (fun n => L_impl_ygoodRefs_0_2_1002_1010_eq n true x2 (x2.length : Int) (k : Int))
    rw [show decide ((k : Int) < (x2.length : Int)) = false from decide_eq_false (by omega)]
    exact Ev.neg rfl (Ev.pos rfl (Ev.ofSome h))
  | cons e rest ih =>
    intro k r hr h
    obtain ⟨hk, hx, hr2⟩ := drop_cons (d := (Ty.dflt TyAtom)) hr
    have hw := wrap_succ hl hk
    have ih2 : ∀ (r : Bool), P_impl_ygoodRefs_0_2_1002_1010 rest (k + 1) = some r → Ev (fun n => L_impl_ygoodRefs_0_2_1002_1010 n true x2 (x2.length : Int) (IntKind.wrap .i64 ((k : Int) + 1))) r := by
      intro r h; rw [hw]; exact ih (k + 1) r hr2 h
    rw [P_impl_ygoodRefs_0_2_1002_1010] at h
    refine Ev.step ?_ (fun n => L_impl_ygoodRefs_0_2_1002_1010_eq n true x2 (x2.length : Int) (k : Int))
    rw [show decide ((k : Int) < (x2.length : Int)) = true from decide_eq_true (by omega), inB_nat2 hk, hx]
    exact Ev.pos rfl (Ev.pos rfl (Ev.ofBif h (fun h => (Ev.pos rfl (Ev.ofSome h))) (fun h => (ih2  _ h))))
theorem S_impl_ygoodRefs (a0 : (List DAtom)) (a1 : Int) {r : Bool} (h : P_impl_ygoodRefs a0 a1 = some r) : Ev (fun n => F_impl_ygoodRefs n a0 a1) r := by
  rw [P_impl_ygoodRefs] at h
  refine Ev.of_eq ?_ (fun n => F_impl_ygoodRefs_eq n a0 a1)
  exact (Ev.ofBif h (fun h => (Ev.ofBind h fun y1 h => (Ev.ofBif h (fun h => (Ev.ofLen h fun hl h => S_impl_ygoodRefs_0_2_1002_1010 hl _ (0 : Nat) _ rfl h)) (fun h => (Ev.ofSome h))))) (fun h => (Ev.ofSome h)))
theorem hcs_impl_ygoodRefs : ∀ x ∈ cs_impl_ygoodRefs, CtrOk Try.prog x := (conOf_cons ok_impl_yrisingAtoms conOf_nil)
theorem ok_impl_ygoodRefs : CtrOk Try.prog c_impl_ygoodRefs := by
  refine ctr_of_run (c := c_impl_ygoodRefs) (by kernel_rfl : Try.prog.funcs[88]? = some Try.f88) (code := Try.f88.body.getD .skip) (by kernel_rfl) (by kernel_rfl) (by kernel_rfl) (A := A_impl_ygoodRefs) (I := In_impl_ygoodRefs) hcs_impl_ygoodRefs ?_
  rintro ⟨a0, a1, u⟩ y hy
  exact (S_impl_ygoodRefs a0 a1 hy).get

/-! ## impl.yallNames (126) -/
noncomputable def P_impl_yallNames_0_2_1002_1001 : List (List Int) → Nat → Option Bool
  | [], k =>
      some true
  | e :: rest, k =>
      Option.bind (P_impl_GoodName (e)) fun (y1 : Bool) =>
      bif !(y1) then
        some (!decide ((0 : Int) ≤ (k : Int)))
      else
        P_impl_yallNames_0_2_1002_1001 rest (k + 1)
noncomputable def P_impl_yallNames (a0 : (List (List Int))) : Option Bool :=
  lenOk a0 (P_impl_yallNames_0_2_1002_1001 a0 0)
noncomputable def c_impl_yallNames : Ctr := ⟨126, [(.list .str)], [.bool], fun x => P_impl_yallNames x.1⟩
def A_impl_yallNames : List (List Nat × Ann) := [([0, 2, 1002, 1001], [.keep 2 0, .keep 2 1, .keep 2 7, .keep 2 8])]
def In_impl_yallNames : List (List Nat × Nat) := [([1001], 124), ([1002, 1001], 160), ([4005, 1002, 1001], 161)]
noncomputable def cs_impl_yallNames : List Ctr := [c_impl_GoodName]
noncomputable def F_impl_yallNames (n : Nat) (a0 : (List (List Int))) : Option Bool := run Try.prog A_impl_yallNames In_impl_yallNames (conOf cs_impl_yallNames) Try.f126 (Try.f126.body.getD .skip) (packT [.bool]) n (argsV [(.list .str)] (a0, ()))
noncomputable abbrev L_impl_yallNames_0_2_1002_1001 (n : Nat) (x1 : (List (List Int))) (x2 : Int) (x3 : Int) : Option Bool := lam Try.prog A_impl_yallNames In_impl_yallNames (conOf cs_impl_yallNames) Try.f126 (Try.f126.body.getD .skip) (packT [.bool]) n [0, 2, 1002, 1001] [.d (.list .str) x1, .fn 161 [], .d I64 x2, .d I64 x3]
theorem F_impl_yallNames_eq (n : Nat) (a0 : (List (List Int))) : F_impl_yallNames n a0 =
    L_impl_yallNames_0_2_1002_1001 n a0 (a0.length : Int) 0 := by kernel_rfl
theorem L_impl_yallNames_0_2_1002_1001_eq (n : Nat) (x1 : (List (List Int))) (x2 : Int) (x3 : Int) : L_impl_yallNames_0_2_1002_1001 (n + 1) x1 x2 x3 =
    bif decide (x3 < x2) then
      bif inB x3 x1.length then
        Option.bind (P_impl_GoodName (rd x1 x3 (Ty.dflt .str))) fun (y1 : Bool) =>
        bif !(y1) then
          some (!decide ((0 : Int) ≤ x3))
        else
          L_impl_yallNames_0_2_1002_1001 n x1 x2 (IntKind.wrap .i64 (x3 + 1))
      else none
    else
      some true := by kernel_rfl
theorem S_impl_yallNames_0_2_1002_1001 {x1 : (List (List Int))} (hl : x1.length ≤ maxLen) : ∀ (rest : List (List Int)) (k : Nat) (r : Bool), rest = x1.drop k → P_impl_yallNames_0_2_1002_1001 rest k = some r → Ev (fun n => L_impl_yallNames_0_2_1002_1001 n x1 (x1.length : Int) (k : Int)) r := by
  intro rest
  induction rest with
  | nil =>
    intro k r hr h
    have hk := drop_nil hr
    rw [P_impl_yallNames_0_2_1002_1001] at h
    refine Ev.step ?_ (fun n => L_impl_yallNames_0_2_1002_1001_eq n x1 (x1.length : Int) (k : Int))
    rw [show decide ((k : Int) < (x1.length : Int)) = false from decide_eq_false (by omega)]
    exact Ev.neg rfl (Ev.ofSome h)
  | cons e rest ih =>
    intro k r hr h
    obtain ⟨hk, hx, hr2⟩ := drop_cons (d := (Ty.dflt .str)) hr
    have hw := wrap_succ hl hk
    have ih2 : ∀ (r : Bool), P_impl_yallNames_0_2_1002_1001 rest (k + 1) = some r → Ev (fun n => L_impl_yallNames_0_2_1002_1001 n x1 (x1.length : Int) (IntKind.wrap .i64 ((k : Int) + 1))) r := by
      intro r h; rw [hw]; exact ih (k + 1) r hr2 h
    rw [P_impl_yallNames_0_2_1002_1001] at h
    refine Ev.step ?_ (fun n => L_impl_yallNames_0_2_1002_1001_eq n x1 (x1.length : Int) (k : Int))
    rw [show decide ((k : Int) < (x1.length : Int)) = true from decide_eq_true (by omega), inB_nat2 hk, hx]
    exact Ev.pos rfl (Ev.pos rfl (Ev.ofBind h fun y1 h => (Ev.ofBif h (fun h => (Ev.ofSome h)) (fun h => (ih2  _ h)))))
theorem S_impl_yallNames (a0 : (List (List Int))) {r : Bool} (h : P_impl_yallNames a0 = some r) : Ev (fun n => F_impl_yallNames n a0) r := by
  rw [P_impl_yallNames] at h
  refine Ev.of_eq ?_ (fun n => F_impl_yallNames_eq n a0)
  exact (Ev.ofLen h fun hl h => S_impl_yallNames_0_2_1002_1001 hl _ (0 : Nat) _ rfl h)
theorem hcs_impl_yallNames : ∀ x ∈ cs_impl_yallNames, CtrOk Try.prog x := (conOf_cons ok_impl_GoodName conOf_nil)
theorem ok_impl_yallNames : CtrOk Try.prog c_impl_yallNames := by
  refine ctr_of_run (c := c_impl_yallNames) (by kernel_rfl : Try.prog.funcs[126]? = some Try.f126) (code := Try.f126.body.getD .skip) (by kernel_rfl) (by kernel_rfl) (by kernel_rfl) (A := A_impl_yallNames) (I := In_impl_yallNames) hcs_impl_yallNames ?_
  rintro ⟨a0, u⟩ y hy
  exact (S_impl_yallNames a0 hy).get

/-! ## impl.yrising (123) -/
noncomputable def P_impl_yrising_0_2 (x1 : (List (List Int))) : List (List Int) → Nat → Option Bool
  | [], k =>
      some true
  | e :: rest, k =>
      bif decide ((0 : Int) < (k : Int)) then
        bif inB (IntKind.wrap .i64 ((k : Int) - 1)) x1.length then
          bif !lessI (rd x1 (IntKind.wrap .i64 ((k : Int) - 1)) (Ty.dflt .str)) (e) then
            some false
          else
            P_impl_yrising_0_2 x1 rest (k + 1)
        else none
      else
        P_impl_yrising_0_2 x1 rest (k + 1)
noncomputable def P_impl_yrising (a0 : (List (List Int))) : Option Bool :=
  lenOk a0 (P_impl_yrising_0_2 a0 a0 0)
noncomputable def c_impl_yrising : Ctr := ⟨123, [(.list .str)], [.bool], fun x => P_impl_yrising x.1⟩
def A_impl_yrising : List (List Nat × Ann) := [([0, 2], [.keep 0 0, .keep 0 5, .keep 0 6, .keep 0 7])]
def In_impl_yrising : List (List Nat × Nat) := []
noncomputable def cs_impl_yrising : List Ctr := []
noncomputable def F_impl_yrising (n : Nat) (a0 : (List (List Int))) : Option Bool := run Try.prog A_impl_yrising In_impl_yrising (conOf cs_impl_yrising) Try.f123 (Try.f123.body.getD .skip) (packT [.bool]) n (argsV [(.list .str)] (a0, ()))
noncomputable abbrev L_impl_yrising_0_2 (n : Nat) (x1 : (List (List Int))) (x2 : (List (List Int))) (x3 : Int) (x4 : Int) : Option Bool := lam Try.prog A_impl_yrising In_impl_yrising (conOf cs_impl_yrising) Try.f123 (Try.f123.body.getD .skip) (packT [.bool]) n [0, 2] [.d (.list .str) x1, .d (.list .str) x2, .d I64 x3, .d I64 x4]
theorem F_impl_yrising_eq (n : Nat) (a0 : (List (List Int))) : F_impl_yrising n a0 =
    L_impl_yrising_0_2 n a0 a0 (a0.length : Int) 0 := by kernel_rfl
theorem L_impl_yrising_0_2_eq (n : Nat) (x1 : (List (List Int))) (x2 : (List (List Int))) (x3 : Int) (x4 : Int) : L_impl_yrising_0_2 (n + 1) x1 x2 x3 x4 =
    bif decide (x4 < x3) then
      bif inB x4 x2.length then
        bif decide ((0 : Int) < x4) then
          bif inB (IntKind.wrap .i64 (x4 - 1)) x1.length then
            bif !lessI (rd x1 (IntKind.wrap .i64 (x4 - 1)) (Ty.dflt .str)) (rd x2 x4 (Ty.dflt .str)) then
              some false
            else
              L_impl_yrising_0_2 n x1 x2 x3 (IntKind.wrap .i64 (x4 + 1))
          else none
        else
          L_impl_yrising_0_2 n x1 x2 x3 (IntKind.wrap .i64 (x4 + 1))
      else none
    else
      some true := by kernel_rfl
theorem S_impl_yrising_0_2 {x1 : (List (List Int))} (hl : x1.length ≤ maxLen) : ∀ (rest : List (List Int)) (k : Nat) (r : Bool), rest = x1.drop k → P_impl_yrising_0_2 x1 rest k = some r → Ev (fun n => L_impl_yrising_0_2 n x1 x1 (x1.length : Int) (k : Int)) r := by
  intro rest
  induction rest with
  | nil =>
    intro k r hr h
    have hk := drop_nil hr
    rw [P_impl_yrising_0_2] at h
    refine Ev.step ?_ (fun n => L_impl_yrising_0_2_eq n x1 x1 (x1.length : Int) (k : Int))
    rw [show decide ((k : Int) < (x1.length : Int)) = false from decide_eq_false (by omega)]
    exact Ev.neg rfl (Ev.ofSome h)
  | cons e rest ih =>
    intro k r hr h
    obtain ⟨hk, hx, hr2⟩ := drop_cons (d := (Ty.dflt .str)) hr
    have hw := wrap_succ hl hk
    have ih2 : ∀ (r : Bool), P_impl_yrising_0_2 x1 rest (k + 1) = some r → Ev (fun n => L_impl_yrising_0_2 n x1 x1 (x1.length : Int) (IntKind.wrap .i64 ((k : Int) + 1))) r := by
      intro r h; rw [hw]; exact ih (k + 1) r hr2 h
    rw [P_impl_yrising_0_2] at h
    refine Ev.step ?_ (fun n => L_impl_yrising_0_2_eq n x1 x1 (x1.length : Int) (k : Int))
    rw [show decide ((k : Int) < (x1.length : Int)) = true from decide_eq_true (by omega), inB_nat2 hk, hx]
    exact Ev.pos rfl (Ev.pos rfl (Ev.ofBif h (fun h => (Ev.ofBif h (fun h => (Ev.ofBif h (fun h => (Ev.ofSome h)) (fun h => (ih2  _ h)))) (fun h => (Ev.ofNone h)))) (fun h => (ih2  _ h))))
theorem S_impl_yrising (a0 : (List (List Int))) {r : Bool} (h : P_impl_yrising a0 = some r) : Ev (fun n => F_impl_yrising n a0) r := by
  rw [P_impl_yrising] at h
  refine Ev.of_eq ?_ (fun n => F_impl_yrising_eq n a0)
  exact (Ev.ofLen h fun hl h => S_impl_yrising_0_2 hl _ (0 : Nat) _ rfl h)
theorem hcs_impl_yrising : ∀ x ∈ cs_impl_yrising, CtrOk Try.prog x := conOf_nil
theorem ok_impl_yrising : CtrOk Try.prog c_impl_yrising := by
  refine ctr_of_run (c := c_impl_yrising) (by kernel_rfl : Try.prog.funcs[123]? = some Try.f123) (code := Try.f123.body.getD .skip) (by kernel_rfl) (by kernel_rfl) (by kernel_rfl) (A := A_impl_yrising) (I := In_impl_yrising) hcs_impl_yrising ?_
  rintro ⟨a0, u⟩ y hy
  exact (S_impl_yrising a0 hy).get

/-! ## impl.yzeroAtom (90) -/
def T_impl_yzeroAtom (a0 : DAtom) : Bool :=
  @decide (a0 = (0, 0, ([] : List Int), ([] : List Int))) (Ty.decEq TyAtom a0 (0, 0, ([] : List Int), ([] : List Int)))
noncomputable def c_impl_yzeroAtom : Ctr := ⟨90, [TyAtom], [.bool], fun x => some (T_impl_yzeroAtom x.1)⟩
def A_impl_yzeroAtom : List (List Nat × Ann) := []
def In_impl_yzeroAtom : List (List Nat × Nat) := []
noncomputable def cs_impl_yzeroAtom : List Ctr := []
noncomputable def F_impl_yzeroAtom (n : Nat) (a0 : DAtom) : Option Bool := run Try.prog A_impl_yzeroAtom In_impl_yzeroAtom (conOf cs_impl_yzeroAtom) Try.f90 (Try.f90.body.getD .skip) (packT [.bool]) n (argsV [TyAtom] (a0, ()))
theorem F_impl_yzeroAtom_eq (n : Nat) (a0 : DAtom) : F_impl_yzeroAtom n a0 =
    some (@decide (a0 = (0, 0, ([] : List Int), ([] : List Int))) (Ty.decEq TyAtom a0 (0, 0, ([] : List Int), ([] : List Int)))) := by kernel_rfl
theorem S_impl_yzeroAtom (n : Nat) (a0 : DAtom) : F_impl_yzeroAtom n a0 = some (T_impl_yzeroAtom a0) := (F_impl_yzeroAtom_eq n a0).trans rfl
theorem hcs_impl_yzeroAtom : ∀ x ∈ cs_impl_yzeroAtom, CtrOk Try.prog x := conOf_nil
theorem ok_impl_yzeroAtom : CtrOk Try.prog c_impl_yzeroAtom := by
  refine ctr_of_run (c := c_impl_yzeroAtom) (by kernel_rfl : Try.prog.funcs[90]? = some Try.f90) (code := Try.f90.body.getD .skip) (by kernel_rfl) (by kernel_rfl) (by kernel_rfl) (A := A_impl_yzeroAtom) (I := In_impl_yzeroAtom) hcs_impl_yzeroAtom ?_
  rintro ⟨a0, u⟩ y hy
  exact ⟨0, (S_impl_yzeroAtom 0 a0).trans hy⟩

/-! ## impl.GoodValue (148) -/
noncomputable def P_impl_GoodValue_0_2_1002_7031 : List DAtom → Nat → Option Bool
  | [], k =>
      some true
  | e :: rest, k =>
      Option.bind (P_impl_GoodAtom (e)) fun (y5 : Bool) =>
      bif !(y5) then
        some (!decide ((0 : Int) ≤ (k : Int)))
      else
        P_impl_GoodValue_0_2_1002_7031 rest (k + 1)
noncomputable def P_impl_GoodValue (a0 : DValue) : Option Bool :=
  bif decide (a0.1 = 1) then
    Option.bind (P_impl_GoodAtom a0.2.1) fun (y1 : Bool) =>
    bif y1 then
      bif decide ((a0.2.2.1.length : Int) = 0) then
        some (decide ((a0.2.2.2.length : Int) = 0))
      else
        some false
    else
      some false
  else
    bif decide (a0.1 = 2) then
      bif T_impl_yzeroAtom a0.2.1 then
        bif decide ((a0.2.2.1.length : Int) ≤ 50) then
          bif decide ((a0.2.2.2.length : Int) = 0) then
            Option.bind (P_impl_yrisingAtoms a0.2.2.1) fun (y2 : Bool) =>
            some y2
          else
            some false
        else
          some false
      else
        some false
    else
      bif decide (a0.1 = 3) then
        bif T_impl_yzeroAtom a0.2.1 then
          bif decide ((a0.2.2.2.length : Int) ≤ 50) then
            bif decide ((a0.2.2.1.length : Int) = (a0.2.2.2.length : Int)) then
              Option.bind (P_impl_yallNames a0.2.2.2) fun (y3 : Bool) =>
              bif y3 then
                Option.bind (P_impl_yrising a0.2.2.2) fun (y4 : Bool) =>
                bif y4 then
                  lenOk a0.2.2.1 (P_impl_GoodValue_0_2_1002_7031 a0.2.2.1 0)
                else
                  some false
              else
                some false
            else
              some false
          else
            some false
        else
          some false
      else
        some false
noncomputable def c_impl_GoodValue : Ctr := ⟨148, [TyValue], [.bool], fun x => P_impl_GoodValue x.1⟩
def A_impl_GoodValue : List (List Nat × Ann) := [([0, 2, 1002, 7031], [.keep 0 74, .keep 2 0, .keep 2 1, .keep 2 7, .keep 2 8])]
def In_impl_GoodValue : List (List Nat × Nat) := [([7031], 144), ([1002, 7031], 166), ([4005, 1002, 7031], 168)]
noncomputable def cs_impl_GoodValue : List Ctr := [c_impl_GoodAtom, c_impl_yzeroAtom, c_impl_yrisingAtoms, c_impl_yallNames, c_impl_yrising]
noncomputable def F_impl_GoodValue (n : Nat) (a0 : DValue) : Option Bool := run Try.prog A_impl_GoodValue In_impl_GoodValue (conOf cs_impl_GoodValue) Try.f148 (Try.f148.body.getD .skip) (packT [.bool]) n (argsV [TyValue] (a0, ()))
noncomputable abbrev L_impl_GoodValue_0_2_1002_7031 (n : Nat) (x1 : Bool) (x2 : (List DAtom)) (x3 : Int) (x4 : Int) : Option Bool := lam Try.prog A_impl_GoodValue In_impl_GoodValue (conOf cs_impl_GoodValue) Try.f148 (Try.f148.body.getD .skip) (packT [.bool]) n [0, 2, 1002, 7031] [.d .bool x1, .d (.list TyAtom) x2, .fn 168 [], .d I64 x3, .d I64 x4]
theorem F_impl_GoodValue_eq (n : Nat) (a0 : DValue) : F_impl_GoodValue n a0 =
    bif decide (a0.1 = 1) then
      Option.bind (P_impl_GoodAtom a0.2.1) fun (y1 : Bool) =>
      bif y1 then
        bif decide ((a0.2.2.1.length : Int) = 0) then
          some (decide ((a0.2.2.2.length : Int) = 0))
        else
          some false
      else
        some false
    else
      bif decide (a0.1 = 2) then
        bif T_impl_yzeroAtom a0.2.1 then
          bif decide ((a0.2.2.1.length : Int) ≤ 50) then
            bif decide ((a0.2.2.2.length : Int) = 0) then
              Option.bind (P_impl_yrisingAtoms a0.2.2.1) fun (y2 : Bool) =>
              some y2
            else
              some false
          else
            some false
        else
          some false
      else
        bif decide (a0.1 = 3) then
          bif T_impl_yzeroAtom a0.2.1 then
            bif decide ((a0.2.2.2.length : Int) ≤ 50) then
              bif decide ((a0.2.2.1.length : Int) = (a0.2.2.2.length : Int)) then
                Option.bind (P_impl_yallNames a0.2.2.2) fun (y3 : Bool) =>
                bif y3 then
                  Option.bind (P_impl_yrising a0.2.2.2) fun (y4 : Bool) =>
                  bif y4 then
                    L_impl_GoodValue_0_2_1002_7031 n true a0.2.2.1 (a0.2.2.1.length : Int) 0
                  else
                    some false
                else
                  some false
              else
                some false
            else
              some false
          else
            some false
        else
          some false := by kernel_rfl
theorem L_impl_GoodValue_0_2_1002_7031_eq (n : Nat) (x1 : Bool) (x2 : (List DAtom)) (x3 : Int) (x4 : Int) : L_impl_GoodValue_0_2_1002_7031 (n + 1) x1 x2 x3 x4 =
    bif decide (x4 < x3) then
      bif inB x4 x2.length then
        Option.bind (P_impl_GoodAtom (rd x2 x4 (Ty.dflt TyAtom))) fun (y5 : Bool) =>
        bif !(y5) then
          bif x1 then
            some (!decide ((0 : Int) ≤ x4))
          else
            some false
        else
          L_impl_GoodValue_0_2_1002_7031 n x1 x2 x3 (IntKind.wrap .i64 (x4 + 1))
      else none
    else
      bif x1 then
        some true
      else
        some false := by kernel_rfl
theorem S_impl_GoodValue_0_2_1002_7031 {x2 : (List DAtom)} (hl : x2.length ≤ maxLen) : ∀ (rest : List DAtom) (k : Nat) (r : Bool), rest = x2.drop k → P_impl_GoodValue_0_2_1002_7031 rest k = some r → Ev (fun n => L_impl_GoodValue_0_2_1002_7031 n true x2 (x2.length : Int) (k : Int)) r := by
  intro rest
  induction rest with
  | nil =>
    intro k r hr h
    have hk := drop_nil hr
    rw [P_impl_GoodValue_0_2_1002_7031] at h
    refine Ev.step ?_ (fun n => L_impl_GoodValue_0_2_1002_7031_eq n true x2 (x2.length : Int) (k : Int))
    rw [show decide ((k : Int) < (x2.length : Int)) = false from decide_eq_false (by omega)]
    exact Ev.neg rfl (Ev.pos rfl (Ev.ofSome h))
  | cons e rest ih =>
    intro k r hr h
    obtain ⟨hk, hx, hr2⟩ := drop_cons (d := (Ty.dflt TyAtom)) hr
    have hw := wrap_succ hl hk
    have ih2 : ∀ (r : Bool), P_impl_GoodValue_0_2_1002_7031 rest (k + 1) = some r → Ev (fun n => L_impl_GoodValue_0_2_1002_7031 n true x2 (x2.length : Int) (IntKind.wrap .i64 ((k : Int) + 1))) r := by
      intro r h; rw [hw]; exact ih (k + 1) r hr2 h
    rw [P_impl_GoodValue_0_2_1002_7031] at h
    refine Ev.step ?_ (fun n => L_impl_GoodValue_0_2_1002_7031_eq n true x2 (x2.length : Int) (k : Int))
    rw [show decide ((k : Int) < (x2.length : Int)) = true from decide_eq_true (by omega), inB_nat2 hk, hx]
    exact Ev.pos rfl (Ev.pos rfl (Ev.ofBind h fun y5 h => (Ev.ofBif h (fun h => (Ev.pos rfl (Ev.ofSome h))) (fun h => (ih2  _ h)))))
theorem S_impl_GoodValue (a0 : DValue) {r : Bool} (h : P_impl_GoodValue a0 = some r) : Ev (fun n => F_impl_GoodValue n a0) r := by
  rw [P_impl_GoodValue] at h
  refine Ev.of_eq ?_ (fun n => F_impl_GoodValue_eq n a0)
  exact (Ev.ofBif h (fun h => (Ev.ofBind h fun y1 h => (Ev.ofBif h (fun h => (Ev.ofBif h (fun h => (Ev.ofSome h)) (fun h => (Ev.ofSome h)))) (fun h => (Ev.ofSome h))))) (fun h => (Ev.ofBif h (fun h => (Ev.ofBif h (fun h => (Ev.ofBif h (fun h => (Ev.ofBif h (fun h => (Ev.ofBind h fun y2 h => (Ev.ofSome h))) (fun h => (Ev.ofSome h)))) (fun h => (Ev.ofSome h)))) (fun h => (Ev.ofSome h)))) (fun h => (Ev.ofBif h (fun h => (Ev.ofBif h (fun h => (Ev.ofBif h (fun h => (Ev.ofBif h (fun h => (Ev.ofBind h fun y3 h => (Ev.ofBif h (fun h => (Ev.ofBind h fun y4 h => (Ev.ofBif h (fun h => (Ev.ofLen h fun hl h => S_impl_GoodValue_0_2_1002_7031 hl _ (0 : Nat) _ rfl h)) (fun h => (Ev.ofSome h))))) (fun h => (Ev.ofSome h))))) (fun h => (Ev.ofSome h)))) (fun h => (Ev.ofSome h)))) (fun h => (Ev.ofSome h)))) (fun h => (Ev.ofSome h)))))))
theorem hcs_impl_GoodValue : ∀ x ∈ cs_impl_GoodValue, CtrOk Try.prog x := (conOf_cons ok_impl_GoodAtom (conOf_cons ok_impl_yzeroAtom (conOf_cons ok_impl_yrisingAtoms (conOf_cons ok_impl_yallNames (conOf_cons ok_impl_yrising conOf_nil)))))
theorem ok_impl_GoodValue : CtrOk Try.prog c_impl_GoodValue := by
  refine ctr_of_run (c := c_impl_GoodValue) (by kernel_rfl : Try.prog.funcs[148]? = some Try.f148) (code := Try.f148.body.getD .skip) (by kernel_rfl) (by kernel_rfl) (by kernel_rfl) (A := A_impl_GoodValue) (I := In_impl_GoodValue) hcs_impl_GoodValue ?_
  rintro ⟨a0, u⟩ y hy
  exact (S_impl_GoodValue a0 hy).get

/-! ## impl.ygoodFields (89) -/
noncomputable def P_impl_ygoodFields_0_2_1002_1020 : List DValue → Nat → Option Bool
  | [], k =>
      some true
  | e :: rest, k =>
      bif decide ((e).1 = 3) then
        some (!decide ((0 : Int) ≤ (k : Int)))
      else
        Option.bind (P_impl_GoodValue (e)) fun (y3 : Bool) =>
        bif !(y3) then
          some (!decide ((0 : Int) ≤ (k : Int)))
        else
          P_impl_ygoodFields_0_2_1002_1020 rest (k + 1)
noncomputable def P_impl_ygoodFields (a0 : (List (List Int))) (a1 : (List DValue)) : Option Bool :=
  bif decide ((a0.length : Int) ≤ 20) then
    bif decide ((a0.length : Int) = (a1.length : Int)) then
      Option.bind (P_impl_yallNames a0) fun (y1 : Bool) =>
      bif y1 then
        Option.bind (P_impl_yrising a0) fun (y2 : Bool) =>
        bif y2 then
          lenOk a1 (P_impl_ygoodFields_0_2_1002_1020 a1 0)
        else
          some false
      else
        some false
    else
      some false
  else
    some false
noncomputable def c_impl_ygoodFields : Ctr := ⟨89, [(.list .str), (.list TyValue)], [.bool], fun x => P_impl_ygoodFields x.1 x.2.1⟩
def A_impl_ygoodFields : List (List Nat × Ann) := [([0, 2, 1002, 1020], [.keep 0 23, .keep 2 0, .keep 2 1, .keep 2 7, .keep 2 8])]
def In_impl_ygoodFields : List (List Nat × Nat) := [([1020], 146), ([1002, 1020], 167), ([4005, 1002, 1020], 147)]
noncomputable def cs_impl_ygoodFields : List Ctr := [c_impl_yallNames, c_impl_yrising, c_impl_GoodValue]
noncomputable def F_impl_ygoodFields (n : Nat) (a0 : (List (List Int))) (a1 : (List DValue)) : Option Bool := run Try.prog A_impl_ygoodFields In_impl_ygoodFields (conOf cs_impl_ygoodFields) Try.f89 (Try.f89.body.getD .skip) (packT [.bool]) n (argsV [(.list .str), (.list TyValue)] (a0, a1, ()))
noncomputable abbrev L_impl_ygoodFields_0_2_1002_1020 (n : Nat) (x1 : Bool) (x2 : (List DValue)) (x3 : Int) (x4 : Int) : Option Bool := lam Try.prog A_impl_ygoodFields In_impl_ygoodFields (conOf cs_impl_ygoodFields) Try.f89 (Try.f89.body.getD .skip) (packT [.bool]) n [0, 2, 1002, 1020] [.d .bool x1, .d (.list TyValue) x2, .fn 147 [], .d I64 x3, .d I64 x4]
theorem F_impl_ygoodFields_eq (n : Nat) (a0 : (List (List Int))) (a1 : (List DValue)) : F_impl_ygoodFields n a0 a1 =
    bif decide ((a0.length : Int) ≤ 20) then
      bif decide ((a0.length : Int) = (a1.length : Int)) then
        Option.bind (P_impl_yallNames a0) fun (y1 : Bool) =>
        bif y1 then
          Option.bind (P_impl_yrising a0) fun (y2 : Bool) =>
          bif y2 then
            L_impl_ygoodFields_0_2_1002_1020 n true a1 (a1.length : Int) 0
          else
            some false
        else
          some false
      else
        some false
    else
      some false := by kernel_rfl
theorem L_impl_ygoodFields_0_2_1002_1020_eq (n : Nat) (x1 : Bool) (x2 : (List DValue)) (x3 : Int) (x4 : Int) : L_impl_ygoodFields_0_2_1002_1020 (n + 1) x1 x2 x3 x4 =
    bif decide (x4 < x3) then
      bif inB x4 x2.length then
        bif decide ((rd x2 x4 (Ty.dflt TyValue)).1 = 3) then
          bif x1 then
            some (!decide ((0 : Int) ≤ x4))
          else
            some false
        else
          Option.bind (P_impl_GoodValue (rd x2 x4 (Ty.dflt TyValue))) fun (y3 : Bool) =>
          bif !(y3) then
            bif x1 then
              some (!decide ((0 : Int) ≤ x4))
            else
              some false
          else
            L_impl_ygoodFields_0_2_1002_1020 n x1 x2 x3 (IntKind.wrap .i64 (x4 + 1))
      else none
    else
      bif x1 then
        some true
      else
        some false := by kernel_rfl
theorem S_impl_ygoodFields_0_2_1002_1020 {x2 : (List DValue)} (hl : x2.length ≤ maxLen) : ∀ (rest : List DValue) (k : Nat) (r : Bool), rest = x2.drop k → P_impl_ygoodFields_0_2_1002_1020 rest k = some r → Ev (fun n => L_impl_ygoodFields_0_2_1002_1020 n true x2 (x2.length : Int) (k : Int)) r := by
  intro rest
  induction rest with
  | nil =>
    intro k r hr h
    have hk := drop_nil hr
    rw [P_impl_ygoodFields_0_2_1002_1020] at h
    refine Ev.step ?_ (fun n => L_impl_ygoodFields_0_2_1002_1020_eq n true x2 (x2.length : Int) (k : Int))
    rw [show decide ((k : Int) < (x2.length : Int)) = false from decide_eq_false (by omega)]
    exact Ev.neg rfl (Ev.pos rfl (Ev.ofSome h))
  | cons e rest ih =>
    intro k r hr h
    obtain ⟨hk, hx, hr2⟩ := drop_cons (d := (Ty.dflt TyValue)) hr
    have hw := wrap_succ hl hk
    have ih2 : ∀ (r : Bool), P_impl_ygoodFields_0_2_1002_1020 rest (k + 1) = some r → Ev (fun n => L_impl_ygoodFields_0_2_1002_1020 n true x2 (x2.length : Int) (IntKind.wrap .i64 ((k : Int) + 1))) r := by
      intro r h; rw [hw]; exact ih (k + 1) r hr2 h
    rw [P_impl_ygoodFields_0_2_1002_1020] at h
    refine Ev.step ?_ (fun n => L_impl_ygoodFields_0_2_1002_1020_eq n true x2 (x2.length : Int) (k : Int))
    rw [show decide ((k : Int) < (x2.length : Int)) = true from decide_eq_true (by omega), inB_nat2 hk, hx]
    exact Ev.pos rfl (Ev.pos rfl (Ev.ofBif h (fun h => (Ev.pos rfl (Ev.ofSome h))) (fun h => (Ev.ofBind h fun y3 h => (Ev.ofBif h (fun h => (Ev.pos rfl (Ev.ofSome h))) (fun h => (ih2  _ h)))))))
theorem S_impl_ygoodFields (a0 : (List (List Int))) (a1 : (List DValue)) {r : Bool} (h : P_impl_ygoodFields a0 a1 = some r) : Ev (fun n => F_impl_ygoodFields n a0 a1) r := by
  rw [P_impl_ygoodFields] at h
  refine Ev.of_eq ?_ (fun n => F_impl_ygoodFields_eq n a0 a1)
  exact (Ev.ofBif h (fun h => (Ev.ofBif h (fun h => (Ev.ofBind h fun y1 h => (Ev.ofBif h (fun h => (Ev.ofBind h fun y2 h => (Ev.ofBif h (fun h => (Ev.ofLen h fun hl h => S_impl_ygoodFields_0_2_1002_1020 hl _ (0 : Nat) _ rfl h)) (fun h => (Ev.ofSome h))))) (fun h => (Ev.ofSome h))))) (fun h => (Ev.ofSome h)))) (fun h => (Ev.ofSome h)))
theorem hcs_impl_ygoodFields : ∀ x ∈ cs_impl_ygoodFields, CtrOk Try.prog x := (conOf_cons ok_impl_yallNames (conOf_cons ok_impl_yrising (conOf_cons ok_impl_GoodValue conOf_nil)))
theorem ok_impl_ygoodFields : CtrOk Try.prog c_impl_ygoodFields := by
  refine ctr_of_run (c := c_impl_ygoodFields) (by kernel_rfl : Try.prog.funcs[89]? = some Try.f89) (code := Try.f89.body.getD .skip) (by kernel_rfl) (by kernel_rfl) (by kernel_rfl) (A := A_impl_ygoodFields) (I := In_impl_ygoodFields) hcs_impl_ygoodFields ?_
  rintro ⟨a0, a1, u⟩ y hy
  exact (S_impl_ygoodFields a0 a1 hy).get

/-! ## impl.GoodThings (35) -/
noncomputable def P_impl_GoodThings_0_4 (x1 : (List DThing)) : List DThing → Nat → Option Bool
  | [], k =>
      some true
  | e :: rest, k =>
      Option.bind (P_impl_ygoodRef ((e).1)) fun (y1 : Bool) =>
      bif !(y1) then
        some false
      else
        bif decide ((0 : Int) < (k : Int)) then
          bif inB (IntKind.wrap .i64 ((k : Int) - 1)) x1.length then
            Option.bind (P_impl_ycmpAtom ((rd x1 (IntKind.wrap .i64 ((k : Int) - 1)) (Ty.dflt TyThing)).1) ((e).1)) fun (y2 : Int) =>
            bif decide ((0 : Int) ≤ y2) then
              some false
            else
              Option.bind (P_impl_ygoodRefs (((e).2).1) 50) fun (y3 : Bool) =>
              bif !(y3) then
                some false
              else
                Option.bind (P_impl_ygoodFields ((((e).2).2).1) ((((e).2).2).2)) fun (y4 : Bool) =>
                bif !(y4) then
                  some false
                else
                  P_impl_GoodThings_0_4 x1 rest (k + 1)
          else none
        else
          Option.bind (P_impl_ygoodRefs (((e).2).1) 50) fun (y5 : Bool) =>
          bif !(y5) then
            some false
          else
            Option.bind (P_impl_ygoodFields ((((e).2).2).1) ((((e).2).2).2)) fun (y6 : Bool) =>
            bif !(y6) then
              some false
            else
              P_impl_GoodThings_0_4 x1 rest (k + 1)
noncomputable def P_impl_GoodThings (a0 : (List DThing)) : Option Bool :=
  bif decide ((100 : Int) < (a0.length : Int)) then
    some false
  else
    lenOk a0 (P_impl_GoodThings_0_4 a0 a0 0)
noncomputable def c_impl_GoodThings : Ctr := ⟨35, [(.list TyThing)], [.bool], fun x => P_impl_GoodThings x.1⟩
def A_impl_GoodThings : List (List Nat × Ann) := [([0, 4], [.keep 0 0, .keep 0 8, .keep 0 9, .keep 0 10])]
def In_impl_GoodThings : List (List Nat × Nat) := []
noncomputable def cs_impl_GoodThings : List Ctr := [c_impl_ygoodRef, c_impl_ycmpAtom, c_impl_ygoodRefs, c_impl_ygoodFields]
noncomputable def F_impl_GoodThings (n : Nat) (a0 : (List DThing)) : Option Bool := run Try.prog A_impl_GoodThings In_impl_GoodThings (conOf cs_impl_GoodThings) Try.f35 (Try.f35.body.getD .skip) (packT [.bool]) n (argsV [(.list TyThing)] (a0, ()))
noncomputable abbrev L_impl_GoodThings_0_4 (n : Nat) (x1 : (List DThing)) (x2 : (List DThing)) (x3 : Int) (x4 : Int) : Option Bool := lam Try.prog A_impl_GoodThings In_impl_GoodThings (conOf cs_impl_GoodThings) Try.f35 (Try.f35.body.getD .skip) (packT [.bool]) n [0, 4] [.d (.list TyThing) x1, .d (.list TyThing) x2, .d I64 x3, .d I64 x4]
theorem F_impl_GoodThings_eq (n : Nat) (a0 : (List DThing)) : F_impl_GoodThings n a0 =
    bif decide ((100 : Int) < (a0.length : Int)) then
      some false
    else
      L_impl_GoodThings_0_4 n a0 a0 (a0.length : Int) 0 := by kernel_rfl
theorem L_impl_GoodThings_0_4_eq (n : Nat) (x1 : (List DThing)) (x2 : (List DThing)) (x3 : Int) (x4 : Int) : L_impl_GoodThings_0_4 (n + 1) x1 x2 x3 x4 =
    bif decide (x4 < x3) then
      bif inB x4 x2.length then
        Option.bind (P_impl_ygoodRef ((rd x2 x4 (Ty.dflt TyThing)).1)) fun (y1 : Bool) =>
        bif !(y1) then
          some false
        else
          bif decide ((0 : Int) < x4) then
            bif inB (IntKind.wrap .i64 (x4 - 1)) x1.length then
              Option.bind (P_impl_ycmpAtom ((rd x1 (IntKind.wrap .i64 (x4 - 1)) (Ty.dflt TyThing)).1) ((rd x2 x4 (Ty.dflt TyThing)).1)) fun (y2 : Int) =>
              bif decide ((0 : Int) ≤ y2) then
                some false
              else
                Option.bind (P_impl_ygoodRefs (((rd x2 x4 (Ty.dflt TyThing)).2).1) 50) fun (y3 : Bool) =>
                bif !(y3) then
                  some false
                else
                  Option.bind (P_impl_ygoodFields ((((rd x2 x4 (Ty.dflt TyThing)).2).2).1) ((((rd x2 x4 (Ty.dflt TyThing)).2).2).2)) fun (y4 : Bool) =>
                  bif !(y4) then
                    some false
                  else
                    L_impl_GoodThings_0_4 n x1 x2 x3 (IntKind.wrap .i64 (x4 + 1))
            else none
          else
            Option.bind (P_impl_ygoodRefs (((rd x2 x4 (Ty.dflt TyThing)).2).1) 50) fun (y5 : Bool) =>
            bif !(y5) then
              some false
            else
              Option.bind (P_impl_ygoodFields ((((rd x2 x4 (Ty.dflt TyThing)).2).2).1) ((((rd x2 x4 (Ty.dflt TyThing)).2).2).2)) fun (y6 : Bool) =>
              bif !(y6) then
                some false
              else
                L_impl_GoodThings_0_4 n x1 x2 x3 (IntKind.wrap .i64 (x4 + 1))
      else none
    else
      some true := by kernel_rfl
theorem S_impl_GoodThings_0_4 {x1 : (List DThing)} (hl : x1.length ≤ maxLen) : ∀ (rest : List DThing) (k : Nat) (r : Bool), rest = x1.drop k → P_impl_GoodThings_0_4 x1 rest k = some r → Ev (fun n => L_impl_GoodThings_0_4 n x1 x1 (x1.length : Int) (k : Int)) r := by
  intro rest
  induction rest with
  | nil =>
    intro k r hr h
    have hk := drop_nil hr
    rw [P_impl_GoodThings_0_4] at h
    refine Ev.step ?_ (fun n => L_impl_GoodThings_0_4_eq n x1 x1 (x1.length : Int) (k : Int))
    rw [show decide ((k : Int) < (x1.length : Int)) = false from decide_eq_false (by omega)]
    exact Ev.neg rfl (Ev.ofSome h)
  | cons e rest ih =>
    intro k r hr h
    obtain ⟨hk, hx, hr2⟩ := drop_cons (d := (Ty.dflt TyThing)) hr
    have hw := wrap_succ hl hk
    have ih2 : ∀ (r : Bool), P_impl_GoodThings_0_4 x1 rest (k + 1) = some r → Ev (fun n => L_impl_GoodThings_0_4 n x1 x1 (x1.length : Int) (IntKind.wrap .i64 ((k : Int) + 1))) r := by
      intro r h; rw [hw]; exact ih (k + 1) r hr2 h
    rw [P_impl_GoodThings_0_4] at h
    refine Ev.step ?_ (fun n => L_impl_GoodThings_0_4_eq n x1 x1 (x1.length : Int) (k : Int))
    rw [show decide ((k : Int) < (x1.length : Int)) = true from decide_eq_true (by omega), inB_nat2 hk, hx]
    exact Ev.pos rfl (Ev.pos rfl (Ev.ofBind h fun y1 h => (Ev.ofBif h (fun h => (Ev.ofSome h)) (fun h => (Ev.ofBif h (fun h => (Ev.ofBif h (fun h => (Ev.ofBind h fun y2 h => (Ev.ofBif h (fun h => (Ev.ofSome h)) (fun h => (Ev.ofBind h fun y3 h => (Ev.ofBif h (fun h => (Ev.ofSome h)) (fun h => (Ev.ofBind h fun y4 h => (Ev.ofBif h (fun h => (Ev.ofSome h)) (fun h => (ih2  _ h))))))))))) (fun h => (Ev.ofNone h)))) (fun h => (Ev.ofBind h fun y5 h => (Ev.ofBif h (fun h => (Ev.ofSome h)) (fun h => (Ev.ofBind h fun y6 h => (Ev.ofBif h (fun h => (Ev.ofSome h)) (fun h => (ih2  _ h)))))))))))))
theorem S_impl_GoodThings (a0 : (List DThing)) {r : Bool} (h : P_impl_GoodThings a0 = some r) : Ev (fun n => F_impl_GoodThings n a0) r := by
  rw [P_impl_GoodThings] at h
  refine Ev.of_eq ?_ (fun n => F_impl_GoodThings_eq n a0)
  exact (Ev.ofBif h (fun h => (Ev.ofSome h)) (fun h => (Ev.ofLen h fun hl h => S_impl_GoodThings_0_4 hl _ (0 : Nat) _ rfl h)))
theorem hcs_impl_GoodThings : ∀ x ∈ cs_impl_GoodThings, CtrOk Try.prog x := (conOf_cons ok_impl_ygoodRef (conOf_cons ok_impl_ycmpAtom (conOf_cons ok_impl_ygoodRefs (conOf_cons ok_impl_ygoodFields conOf_nil))))
theorem ok_impl_GoodThings : CtrOk Try.prog c_impl_GoodThings := by
  refine ctr_of_run (c := c_impl_GoodThings) (by kernel_rfl : Try.prog.funcs[35]? = some Try.f35) (code := Try.f35.body.getD .skip) (by kernel_rfl) (by kernel_rfl) (by kernel_rfl) (A := A_impl_GoodThings) (I := In_impl_GoodThings) hcs_impl_GoodThings ?_
  rintro ⟨a0, u⟩ y hy
  exact (S_impl_GoodThings a0 hy).get

/-! ## impl.ygoodHead (36) -/
noncomputable def P_impl_ygoodHead_1_11 (x1 : Bool) (x2 : Bool) (x3 : DHead) : Option Bool :=
  bif x2 then
    bif T_impl_yzeroAtom x3.2.1 then
      bif decide (x3.2.2 = ([] : List Int)) then
        some (!(x1))
      else
        some false
    else
      some false
  else
    some false
noncomputable def P_impl_ygoodHead_1_6 (x1 : Bool) (x2 : Int) (x3 : Bool) (x4 : DHead) : Option Bool :=
  bif x3 then
    Option.bind (P_impl_ygoodRef x4.2.1) fun (y1 : Bool) =>
    bif y1 then
      some (decide (x4.2.2 = ([] : List Int)))
    else
      some false
  else
    bif decide (x2 = 4) then
      bif T_impl_yzeroAtom x4.2.1 then
        Option.bind (P_impl_GoodName x4.2.2) fun (y2 : Bool) =>
        some y2
      else
        some false
    else
      bif decide (x2 = 5) then
        P_impl_ygoodHead_1_11 x1 (decide (x2 = 5)) x4
      else
        P_impl_ygoodHead_1_11 x1 (decide (x2 = 6)) x4
noncomputable def P_impl_ygoodHead (a0 : DHead) (a1 : Bool) : Option Bool :=
  bif decide (a0.1 = 1) then
    bif T_impl_yzeroAtom a0.2.1 then
      some (decide (a0.2.2 = ([] : List Int)))
    else
      some false
  else
    bif decide (a0.1 = 2) then
      P_impl_ygoodHead_1_6 a1 a0.1 (decide (a0.1 = 2)) a0
    else
      P_impl_ygoodHead_1_6 a1 a0.1 (decide (a0.1 = 3)) a0
noncomputable def c_impl_ygoodHead : Ctr := ⟨36, [TyHead, .bool], [.bool], fun x => P_impl_ygoodHead x.1 x.2.1⟩
def A_impl_ygoodHead : List (List Nat × Ann) := [([1, 6], [.keep 0 1, .keep 0 2, .keep 0 6, .keep 0 17, .boxd 0 2 TyHead]), ([1, 11], [.keep 0 1, .keep 0 2, .keep 0 38, .boxd 0 2 TyHead])]
def In_impl_ygoodHead : List (List Nat × Nat) := []
noncomputable def cs_impl_ygoodHead : List Ctr := [c_impl_yzeroAtom, c_impl_ygoodRef, c_impl_GoodName]
noncomputable def F_impl_ygoodHead (n : Nat) (a0 : DHead) (a1 : Bool) : Option Bool := run Try.prog A_impl_ygoodHead In_impl_ygoodHead (conOf cs_impl_ygoodHead) Try.f36 (Try.f36.body.getD .skip) (packT [.bool]) n (argsV [TyHead, .bool] (a0, a1, ()))
noncomputable abbrev L_impl_ygoodHead_1_6 (n : Nat) (x1 : Bool) (x2 : Int) (x3 : Bool) (x4 : DHead) : Option Bool := lam Try.prog A_impl_ygoodHead In_impl_ygoodHead (conOf cs_impl_ygoodHead) Try.f36 (Try.f36.body.getD .skip) (packT [.bool]) n [1, 6] [.d .bool x1, .ptr 0 2 0, .d I64 x2, .d .bool x3, .agg (explode TyHead x4)]
noncomputable abbrev L_impl_ygoodHead_1_11 (n : Nat) (x1 : Bool) (x2 : Bool) (x3 : DHead) : Option Bool := lam Try.prog A_impl_ygoodHead In_impl_ygoodHead (conOf cs_impl_ygoodHead) Try.f36 (Try.f36.body.getD .skip) (packT [.bool]) n [1, 11] [.d .bool x1, .ptr 0 2 0, .d .bool x2, .agg (explode TyHead x3)]
theorem F_impl_ygoodHead_eq (n : Nat) (a0 : DHead) (a1 : Bool) : F_impl_ygoodHead n a0 a1 =
    bif decide (a0.1 = 1) then
      bif T_impl_yzeroAtom a0.2.1 then
        some (decide (a0.2.2 = ([] : List Int)))
      else
        some false
    else
      bif decide (a0.1 = 2) then
        L_impl_ygoodHead_1_6 n a1 a0.1 (decide (a0.1 = 2)) a0
      else
        L_impl_ygoodHead_1_6 n a1 a0.1 (decide (a0.1 = 3)) a0 := by kernel_rfl
theorem L_impl_ygoodHead_1_6_eq (n : Nat) (x1 : Bool) (x2 : Int) (x3 : Bool) (x4 : DHead) : L_impl_ygoodHead_1_6 (n + 1) x1 x2 x3 x4 =
    bif x3 then
      Option.bind (P_impl_ygoodRef x4.2.1) fun (y1 : Bool) =>
      bif y1 then
        some (decide (x4.2.2 = ([] : List Int)))
      else
        some false
    else
      bif decide (x2 = 4) then
        bif T_impl_yzeroAtom x4.2.1 then
          Option.bind (P_impl_GoodName x4.2.2) fun (y2 : Bool) =>
          some y2
        else
          some false
      else
        bif decide (x2 = 5) then
          L_impl_ygoodHead_1_11 n x1 (decide (x2 = 5)) x4
        else
          L_impl_ygoodHead_1_11 n x1 (decide (x2 = 6)) x4 := by kernel_rfl
theorem L_impl_ygoodHead_1_11_eq (n : Nat) (x1 : Bool) (x2 : Bool) (x3 : DHead) : L_impl_ygoodHead_1_11 (n + 1) x1 x2 x3 =
    bif x2 then
      bif T_impl_yzeroAtom x3.2.1 then
        bif decide (x3.2.2 = ([] : List Int)) then
          some (!(x1))
        else
          some false
      else
        some false
    else
      some false := by kernel_rfl
theorem S_impl_ygoodHead_1_11 {x1 : Bool} {x2 : Bool} {x3 : DHead} {r : Bool} (h : P_impl_ygoodHead_1_11 x1 x2 x3 = some r) : Ev (fun n => L_impl_ygoodHead_1_11 n x1 x2 x3) r := by
  rw [P_impl_ygoodHead_1_11] at h
  refine Ev.step ?_ (fun n => L_impl_ygoodHead_1_11_eq n x1 x2 x3)
  exact (Ev.ofBif h (fun h => (Ev.ofBif h (fun h => (Ev.ofBif h (fun h => (Ev.ofSome h)) (fun h => (Ev.ofSome h)))) (fun h => (Ev.ofSome h)))) (fun h => (Ev.ofSome h)))
theorem S_impl_ygoodHead_1_6 {x1 : Bool} {x2 : Int} {x3 : Bool} {x4 : DHead} {r : Bool} (h : P_impl_ygoodHead_1_6 x1 x2 x3 x4 = some r) : Ev (fun n => L_impl_ygoodHead_1_6 n x1 x2 x3 x4) r := by
  rw [P_impl_ygoodHead_1_6] at h
  refine Ev.step ?_ (fun n => L_impl_ygoodHead_1_6_eq n x1 x2 x3 x4)
  exact (Ev.ofBif h (fun h => (Ev.ofBind h fun y1 h => (Ev.ofBif h (fun h => (Ev.ofSome h)) (fun h => (Ev.ofSome h))))) (fun h => (Ev.ofBif h (fun h => (Ev.ofBif h (fun h => (Ev.ofBind h fun y2 h => (Ev.ofSome h))) (fun h => (Ev.ofSome h)))) (fun h => (Ev.ofBif h (fun h => (S_impl_ygoodHead_1_11 h)) (fun h => (S_impl_ygoodHead_1_11 h)))))))
theorem S_impl_ygoodHead (a0 : DHead) (a1 : Bool) {r : Bool} (h : P_impl_ygoodHead a0 a1 = some r) : Ev (fun n => F_impl_ygoodHead n a0 a1) r := by
  rw [P_impl_ygoodHead] at h
  refine Ev.of_eq ?_ (fun n => F_impl_ygoodHead_eq n a0 a1)
  exact (Ev.ofBif h (fun h => (Ev.ofBif h (fun h => (Ev.ofSome h)) (fun h => (Ev.ofSome h)))) (fun h => (Ev.ofBif h (fun h => (S_impl_ygoodHead_1_6 h)) (fun h => (S_impl_ygoodHead_1_6 h)))))
theorem hcs_impl_ygoodHead : ∀ x ∈ cs_impl_ygoodHead, CtrOk Try.prog x := (conOf_cons ok_impl_yzeroAtom (conOf_cons ok_impl_ygoodRef (conOf_cons ok_impl_GoodName conOf_nil)))
theorem ok_impl_ygoodHead : CtrOk Try.prog c_impl_ygoodHead := by
  refine ctr_of_run (c := c_impl_ygoodHead) (by kernel_rfl : Try.prog.funcs[36]? = some Try.f36) (code := Try.f36.body.getD .skip) (by kernel_rfl) (by kernel_rfl) (by kernel_rfl) (A := A_impl_ygoodHead) (I := In_impl_ygoodHead) hcs_impl_ygoodHead ?_
  rintro ⟨a0, a1, u⟩ y hy
  exact (S_impl_ygoodHead a0 a1 hy).get

/-! ## impl.yfindThing (152) -/
noncomputable def P_impl_yfindThing_0_2_1002 (x6 : DAtom) : List DThing → Nat → Option (DThing × Bool)
  | [], k =>
      some (((0, 0, ([] : List Int), ([] : List Int)), [], [], []), false)
  | e :: rest, k =>
      bif @decide (((e).1) = x6) (Ty.decEq TyAtom ((e).1) x6) then
        bif decide ((k : Int) < 0) then
          some (((0, 0, ([] : List Int), ([] : List Int)), [], [], []), false)
        else
          some ((((e).1), ((e).2)), true)
      else
        P_impl_yfindThing_0_2_1002 x6 rest (k + 1)
noncomputable def P_impl_yfindThing (a0 : (List DThing)) (a1 : DAtom) : Option (DThing × Bool) :=
  lenOk a0 (P_impl_yfindThing_0_2_1002 a1 a0 0)
noncomputable def c_impl_yfindThing : Ctr := ⟨152, [(.list TyThing), TyAtom], [TyThing, .bool], fun x => P_impl_yfindThing x.1 x.2.1⟩
def A_impl_yfindThing : List (List Nat × Ann) := [([0, 2, 1002], [.keep 0 0, .keep 0 4, .keep 1 0, .keep 1 1, .keep 1 7, .keep 1 8, .boxd 0 4 TyThing, .boxd 0 3 TyAtom])]
def In_impl_yfindThing : List (List Nat × Nat) := [([1002], 170), ([4005, 1002], 171)]
noncomputable def cs_impl_yfindThing : List Ctr := []
noncomputable def F_impl_yfindThing (n : Nat) (a0 : (List DThing)) (a1 : DAtom) : Option (DThing × Bool) := run Try.prog A_impl_yfindThing In_impl_yfindThing (conOf cs_impl_yfindThing) Try.f152 (Try.f152.body.getD .skip) (packT [TyThing, .bool]) n (argsV [(.list TyThing), TyAtom] (a0, a1, ()))
noncomputable abbrev L_impl_yfindThing_0_2_1002 (n : Nat) (x1 : (List DThing)) (x2 : (List DThing)) (x3 : Int) (x4 : Int) (x5 : DThing) (x6 : DAtom) : Option (DThing × Bool) := lam Try.prog A_impl_yfindThing In_impl_yfindThing (conOf cs_impl_yfindThing) Try.f152 (Try.f152.body.getD .skip) (packT [TyThing, .bool]) n [0, 2, 1002] [.d (.list TyThing) x1, .ptr 0 4 0, .d (.list TyThing) x2, .fn 171 [.ptr 0 3 0], .d I64 x3, .d I64 x4, .agg (explode TyThing x5), .agg (explode TyAtom x6)]
theorem F_impl_yfindThing_eq (n : Nat) (a0 : (List DThing)) (a1 : DAtom) : F_impl_yfindThing n a0 a1 =
    L_impl_yfindThing_0_2_1002 n a0 a0 (a0.length : Int) 0 ((0, 0, ([] : List Int), ([] : List Int)), [], [], []) a1 := by kernel_rfl
theorem L_impl_yfindThing_0_2_1002_eq (n : Nat) (x1 : (List DThing)) (x2 : (List DThing)) (x3 : Int) (x4 : Int) (x5 : DThing) (x6 : DAtom) : L_impl_yfindThing_0_2_1002 (n + 1) x1 x2 x3 x4 x5 x6 =
    bif decide (x4 < x3) then
      bif inB x4 x2.length then
        bif @decide (((rd x2 x4 (Ty.dflt TyThing)).1) = x6) (Ty.decEq TyAtom ((rd x2 x4 (Ty.dflt TyThing)).1) x6) then
          bif decide (x4 < 0) then
            some (((0, 0, ([] : List Int), ([] : List Int)), [], [], []), false)
          else
            bif inB x4 x1.length then
              some ((((rd x1 x4 (Ty.dflt TyThing)).1), ((rd x1 x4 (Ty.dflt TyThing)).2)), true)
            else none
        else
          L_impl_yfindThing_0_2_1002 n x1 x2 x3 (IntKind.wrap .i64 (x4 + 1)) x5 x6
      else none
    else
      some (((0, 0, ([] : List Int), ([] : List Int)), [], [], []), false) := by kernel_rfl
theorem S_impl_yfindThing_0_2_1002 {x1 : (List DThing)} {x5 : DThing} {x6 : DAtom} (hl : x1.length ≤ maxLen) : ∀ (rest : List DThing) (k : Nat) (r : (DThing × Bool)), rest = x1.drop k → P_impl_yfindThing_0_2_1002 x6 rest k = some r → Ev (fun n => L_impl_yfindThing_0_2_1002 n x1 x1 (x1.length : Int) (k : Int) x5 x6) r := by
  intro rest
  induction rest with
  | nil =>
    intro k r hr h
    have hk := drop_nil hr
    rw [P_impl_yfindThing_0_2_1002] at h
    refine Ev.step ?_ (fun n => L_impl_yfindThing_0_2_1002_eq n x1 x1 (x1.length : Int) (k : Int) x5 x6)
    rw [show decide ((k : Int) < (x1.length : Int)) = false from decide_eq_false (by omega)]
    exact Ev.neg rfl (Ev.ofSome h)
  | cons e rest ih =>
    intro k r hr h
    obtain ⟨hk, hx, hr2⟩ := drop_cons (d := (Ty.dflt TyThing)) hr
    have hw := wrap_succ hl hk
    have ih2 : ∀ (r : (DThing × Bool)), P_impl_yfindThing_0_2_1002 x6 rest (k + 1) = some r → Ev (fun n => L_impl_yfindThing_0_2_1002 n x1 x1 (x1.length : Int) (IntKind.wrap .i64 ((k : Int) + 1)) x5 x6) r := by
      intro r h; rw [hw]; exact ih (k + 1) r hr2 h
    rw [P_impl_yfindThing_0_2_1002] at h
    refine Ev.step ?_ (fun n => L_impl_yfindThing_0_2_1002_eq n x1 x1 (x1.length : Int) (k : Int) x5 x6)
    rw [show decide ((k : Int) < (x1.length : Int)) = true from decide_eq_true (by omega), inB_nat2 hk, hx]
    exact Ev.pos rfl (Ev.pos rfl (Ev.ofBif h (fun h => (Ev.ofBif h (fun h => (Ev.ofSome h)) (fun h => (Ev.pos rfl (Ev.ofSome h))))) (fun h => (ih2  _ h))))
theorem S_impl_yfindThing (a0 : (List DThing)) (a1 : DAtom) {r : (DThing × Bool)} (h : P_impl_yfindThing a0 a1 = some r) : Ev (fun n => F_impl_yfindThing n a0 a1) r := by
  rw [P_impl_yfindThing] at h
  refine Ev.of_eq ?_ (fun n => F_impl_yfindThing_eq n a0 a1)
  exact (Ev.ofLen h fun hl h => S_impl_yfindThing_0_2_1002 hl _ (0 : Nat) _ rfl h)
theorem hcs_impl_yfindThing : ∀ x ∈ cs_impl_yfindThing, CtrOk Try.prog x := conOf_nil
theorem ok_impl_yfindThing : CtrOk Try.prog c_impl_yfindThing := by
  refine ctr_of_run (c := c_impl_yfindThing) (by kernel_rfl : Try.prog.funcs[152]? = some Try.f152) (code := Try.f152.body.getD .skip) (by kernel_rfl) (by kernel_rfl) (by kernel_rfl) (A := A_impl_yfindThing) (I := In_impl_yfindThing) hcs_impl_yfindThing ?_
  rintro ⟨a0, a1, u⟩ y hy
  exact (S_impl_yfindThing a0 a1 hy).get

/-! ## impl.yancestors (93) -/
noncomputable def P_impl_yancestors_0_7 (K0 : (List DAtom) → (List (DAtom × Bool)) → Option (List (DAtom × Bool))) : List DAtom → (List DAtom) → (List (DAtom × Bool)) → Option (List (DAtom × Bool))
  | [], x2, x6 =>
      bif true && decide ((1 : Int) ≤ (x2.length : Int)) then
        K0 (cut x2 1 (x2.length : Int)) x6
      else none
  | e :: rest, x2, x6 =>
      bif !(getM TyAtom x6 (e) false) then
        bif decide (((x2.length : Int) + (([(e)] : List DAtom).length : Int)) * 48 ≤ room) && decide ((x2.length : Int) + (([(e)] : List DAtom).length : Int) ≤ room) then
          P_impl_yancestors_0_7 K0 rest (x2 ++ ([(e)] : List DAtom)) (setM TyAtom x6 (e) true)
        else none
      else
        P_impl_yancestors_0_7 K0 rest x2 x6
noncomputable def P_impl_yancestors_0_3 (x1 : (List DThing)) : Nat → (List DAtom) → (List (DAtom × Bool)) → Option (List (DAtom × Bool))
  | 0, _, _ => none
  | m + 1, x2, x3 =>
      bif decide ((0 : Int) < (x2.length : Int)) then
        bif inB 0 x2.length then
          Option.bind (P_impl_yfindThing x1 (rd x2 0 (Ty.dflt TyAtom))) fun (y1 : (DThing × Bool)) =>
          lenOk y1.1.2.1 (P_impl_yancestors_0_7 (fun s0 s1 => P_impl_yancestors_0_3 x1 m s0 s1) y1.1.2.1 x2 x3)
        else none
      else
        some x3
noncomputable def P_impl_yancestors (m : Nat) (a0 : (List DThing)) (a1 : DAtom) : Option (List (DAtom × Bool)) :=
  P_impl_yancestors_0_3 a0 m ([a1] : List DAtom) (setM TyAtom ([] : List (DAtom × Bool)) a1 true)
noncomputable def E_impl_yancestors (a0 : (List DThing)) (a1 : DAtom) : Option (List (DAtom × Bool)) := evOpt fun m => P_impl_yancestors m a0 a1
noncomputable def c_impl_yancestors : Ctr := ⟨93, [(.list TyThing), TyAtom], [(.map TyAtom .bool)], fun x => E_impl_yancestors x.1 x.2.1⟩
def A_impl_yancestors : List (List Nat × Ann) := [([0, 3], [.keep 0 0, .keep 0 5, .own 0 6 TyAtom, .mapb 0 11 TyAtom .bool]), ([0, 7], [.keep 0 0, .keep 0 5, .own 0 6 TyAtom, .keep 0 30, .keep 0 31, .keep 0 32, .mapb 0 11 TyAtom .bool])]
def In_impl_yancestors : List (List Nat × Nat) := []
noncomputable def cs_impl_yancestors : List Ctr := [c_impl_yfindThing]
noncomputable def F_impl_yancestors (n : Nat) (a0 : (List DThing)) (a1 : DAtom) : Option (List (DAtom × Bool)) := run Try.prog A_impl_yancestors In_impl_yancestors (conOf cs_impl_yancestors) Try.f93 (Try.f93.body.getD .skip) (packT [(.map TyAtom .bool)]) n (argsV [(.list TyThing), TyAtom] (a0, a1, ()))
noncomputable abbrev L_impl_yancestors_0_3 (n : Nat) (x1 : (List DThing)) (x2 : (List DAtom)) (x3 : (List (DAtom × Bool))) : Option (List (DAtom × Bool)) := lam Try.prog A_impl_yancestors In_impl_yancestors (conOf cs_impl_yancestors) Try.f93 (Try.f93.body.getD .skip) (packT [(.map TyAtom .bool)]) n [0, 3] [.d (.list TyThing) x1, .mp 0 11, .own 0 TyAtom x2, .d (.map TyAtom .bool) x3]
noncomputable abbrev L_impl_yancestors_0_7 (n : Nat) (x1 : (List DThing)) (x2 : (List DAtom)) (x3 : (List DAtom)) (x4 : Int) (x5 : Int) (x6 : (List (DAtom × Bool))) : Option (List (DAtom × Bool)) := lam Try.prog A_impl_yancestors In_impl_yancestors (conOf cs_impl_yancestors) Try.f93 (Try.f93.body.getD .skip) (packT [(.map TyAtom .bool)]) n [0, 7] [.d (.list TyThing) x1, .mp 0 11, .own 0 TyAtom x2, .d (.list TyAtom) x3, .d I64 x4, .d I64 x5, .d (.map TyAtom .bool) x6]
theorem F_impl_yancestors_eq (n : Nat) (a0 : (List DThing)) (a1 : DAtom) : F_impl_yancestors n a0 a1 =
    L_impl_yancestors_0_3 n a0 ([a1] : List DAtom) (setM TyAtom ([] : List (DAtom × Bool)) a1 true) := by kernel_rfl
theorem L_impl_yancestors_0_3_eq (n : Nat) (x1 : (List DThing)) (x2 : (List DAtom)) (x3 : (List (DAtom × Bool))) : L_impl_yancestors_0_3 (n + 1) x1 x2 x3 =
    bif decide ((0 : Int) < (x2.length : Int)) then
      bif inB 0 x2.length then
        Option.bind (P_impl_yfindThing x1 (rd x2 0 (Ty.dflt TyAtom))) fun (y1 : (DThing × Bool)) =>
        L_impl_yancestors_0_7 n x1 x2 y1.1.2.1 (y1.1.2.1.length : Int) 0 x3
      else none
    else
      some x3 := by kernel_rfl
theorem L_impl_yancestors_0_7_eq (n : Nat) (x1 : (List DThing)) (x2 : (List DAtom)) (x3 : (List DAtom)) (x4 : Int) (x5 : Int) (x6 : (List (DAtom × Bool))) : L_impl_yancestors_0_7 (n + 1) x1 x2 x3 x4 x5 x6 =
    bif decide (x5 < x4) then
      bif inB x5 x3.length then
        bif !(getM TyAtom x6 (rd x3 x5 (Ty.dflt TyAtom)) false) then
          bif decide (((x2.length : Int) + (([(rd x3 x5 (Ty.dflt TyAtom))] : List DAtom).length : Int)) * 48 ≤ room) && decide ((x2.length : Int) + (([(rd x3 x5 (Ty.dflt TyAtom))] : List DAtom).length : Int) ≤ room) then
            L_impl_yancestors_0_7 n x1 (x2 ++ ([(rd x3 x5 (Ty.dflt TyAtom))] : List DAtom)) x3 x4 (IntKind.wrap .i64 (x5 + 1)) (setM TyAtom x6 (rd x3 x5 (Ty.dflt TyAtom)) true)
          else none
        else
          L_impl_yancestors_0_7 n x1 x2 x3 x4 (IntKind.wrap .i64 (x5 + 1)) x6
      else none
    else
      bif true && decide ((1 : Int) ≤ (x2.length : Int)) then
        L_impl_yancestors_0_3 n x1 (cut x2 1 (x2.length : Int)) x6
      else none := by kernel_rfl
theorem S_impl_yancestors_0_7 {K0 : (List DAtom) → (List (DAtom × Bool)) → Option (List (DAtom × Bool))} {x1 : (List DThing)} {x3 : (List DAtom)} (hl : x3.length ≤ maxLen) (hK0 : ∀ (z2 : (List DAtom)) (z3 : (List (DAtom × Bool))) (r : (List (DAtom × Bool))), K0 z2 z3 = some r → Ev (fun n => L_impl_yancestors_0_3 n x1 z2 z3) r) : ∀ (rest : List DAtom) (k : Nat) (x2 : (List DAtom)) (x6 : (List (DAtom × Bool))) (r : (List (DAtom × Bool))), rest = x3.drop k → P_impl_yancestors_0_7 K0 rest x2 x6 = some r → Ev (fun n => L_impl_yancestors_0_7 n x1 x2 x3 (x3.length : Int) (k : Int) x6) r := by
  intro rest
  induction rest with
  | nil =>
    intro k x2 x6 r hr h
    have hk := drop_nil hr
    rw [P_impl_yancestors_0_7] at h
    refine Ev.step ?_ (fun n => L_impl_yancestors_0_7_eq n x1 x2 x3 (x3.length : Int) (k : Int) x6)
    rw [show decide ((k : Int) < (x3.length : Int)) = false from decide_eq_false (by omega)]
    exact Ev.neg rfl (Ev.ofBif h (fun h => (hK0 _ _ _ h)) (fun h => (Ev.ofNone h)))
  | cons e rest ih =>
    intro k x2 x6 r hr h
    obtain ⟨hk, hx, hr2⟩ := drop_cons (d := (Ty.dflt TyAtom)) hr
    have hw := wrap_succ hl hk
    have ih2 : ∀ (z2 : (List DAtom)) (z6 : (List (DAtom × Bool))) (r : (List (DAtom × Bool))), P_impl_yancestors_0_7 K0 rest z2 z6 = some r → Ev (fun n => L_impl_yancestors_0_7 n x1 z2 x3 (x3.length : Int) (IntKind.wrap .i64 ((k : Int) + 1)) z6) r := by
      intro z2 z6 r h; rw [hw]; exact ih (k + 1) z2 z6 r hr2 h
    rw [P_impl_yancestors_0_7] at h
    refine Ev.step ?_ (fun n => L_impl_yancestors_0_7_eq n x1 x2 x3 (x3.length : Int) (k : Int) x6)
    rw [show decide ((k : Int) < (x3.length : Int)) = true from decide_eq_true (by omega), inB_nat2 hk, hx]
    exact Ev.pos rfl (Ev.pos rfl (Ev.ofBif h (fun h => (Ev.ofBif h (fun h => (ih2 _ _ _ h)) (fun h => (Ev.ofNone h)))) (fun h => (ih2 _ _ _ h))))
theorem S_impl_yancestors_0_3 {x1 : (List DThing)} : ∀ (m : Nat) (x2 : (List DAtom)) (x3 : (List (DAtom × Bool))) (r : (List (DAtom × Bool))), P_impl_yancestors_0_3 x1 m x2 x3 = some r → Ev (fun n => L_impl_yancestors_0_3 n x1 x2 x3) r := by
  intro m
  induction m with
  | zero => intro x2 x3 r h; rw [P_impl_yancestors_0_3] at h; exact Ev.ofNone h
  | succ m ih2 =>
    intro x2 x3 r h
    rw [P_impl_yancestors_0_3] at h
    refine Ev.step ?_ (fun n => L_impl_yancestors_0_3_eq n x1 x2 x3)
    exact (Ev.ofBif h (fun h => (Ev.ofBif h (fun h => (Ev.ofBind h fun y1 h => (Ev.ofLen h fun hl h => S_impl_yancestors_0_7 hl ih2 _ (0 : Nat) _ _ _ rfl h))) (fun h => (Ev.ofNone h)))) (fun h => (Ev.ofSome h)))
theorem S_impl_yancestors {m : Nat} (a0 : (List DThing)) (a1 : DAtom) {r : (List (DAtom × Bool))} (h : P_impl_yancestors m a0 a1 = some r) : Ev (fun n => F_impl_yancestors n a0 a1) r := by
  rw [P_impl_yancestors] at h
  refine Ev.of_eq ?_ (fun n => F_impl_yancestors_eq n a0 a1)
  exact (S_impl_yancestors_0_3 _ _ _ _ h)
theorem hcs_impl_yancestors : ∀ x ∈ cs_impl_yancestors, CtrOk Try.prog x := (conOf_cons ok_impl_yfindThing conOf_nil)
theorem ok_impl_yancestors : CtrOk Try.prog c_impl_yancestors := by
  refine ctr_of_run (c := c_impl_yancestors) (by kernel_rfl : Try.prog.funcs[93]? = some Try.f93) (code := Try.f93.body.getD .skip) (by kernel_rfl) (by kernel_rfl) (by kernel_rfl) (A := A_impl_yancestors) (I := In_impl_yancestors) hcs_impl_yancestors ?_
  rintro ⟨a0, a1, u⟩ y hy
  exact let ⟨_, h⟩ := (evOpt_get hy).get; (S_impl_yancestors a0 a1 h).get

/-! ## impl.yheadMatches (38) -/
noncomputable def P_impl_yheadMatches (a0 : (List DThing)) (a1 : DHead) (a2 : DAtom) : Option Bool :=
  bif decide (a1.1 = 1) then
    some true
  else
    bif decide (a1.1 = 2) then
      some (@decide (a1.2.1 = a2) (Ty.decEq TyAtom a1.2.1 a2))
    else
      bif decide (a1.1 = 3) then
        Option.bind (E_impl_yancestors a0 a2) fun (y1 : (List (DAtom × Bool))) =>
        some (getM TyAtom y1 a1.2.1 false)
      else
        bif decide (a1.1 = 4) then
          some (decide (a1.2.2 = a2.2.2.2))
        else
          some false
noncomputable def c_impl_yheadMatches : Ctr := ⟨38, [(.list TyThing), TyHead, TyAtom], [.bool], fun x => P_impl_yheadMatches x.1 x.2.1 x.2.2.1⟩
def A_impl_yheadMatches : List (List Nat × Ann) := []
def In_impl_yheadMatches : List (List Nat × Nat) := []
noncomputable def cs_impl_yheadMatches : List Ctr := [c_impl_yancestors]
noncomputable def F_impl_yheadMatches (n : Nat) (a0 : (List DThing)) (a1 : DHead) (a2 : DAtom) : Option Bool := run Try.prog A_impl_yheadMatches In_impl_yheadMatches (conOf cs_impl_yheadMatches) Try.f38 (Try.f38.body.getD .skip) (packT [.bool]) n (argsV [(.list TyThing), TyHead, TyAtom] (a0, a1, a2, ()))
theorem F_impl_yheadMatches_eq (n : Nat) (a0 : (List DThing)) (a1 : DHead) (a2 : DAtom) : F_impl_yheadMatches n a0 a1 a2 =
    bif decide (a1.1 = 1) then
      some true
    else
      bif decide (a1.1 = 2) then
        some (@decide (a1.2.1 = a2) (Ty.decEq TyAtom a1.2.1 a2))
      else
        bif decide (a1.1 = 3) then
          Option.bind (E_impl_yancestors a0 a2) fun (y1 : (List (DAtom × Bool))) =>
          some (getM TyAtom y1 a1.2.1 false)
        else
          bif decide (a1.1 = 4) then
            some (decide (a1.2.2 = a2.2.2.2))
          else
            some false := by kernel_rfl
theorem S_impl_yheadMatches (a0 : (List DThing)) (a1 : DHead) (a2 : DAtom) {r : Bool} (h : P_impl_yheadMatches a0 a1 a2 = some r) : Ev (fun n => F_impl_yheadMatches n a0 a1 a2) r := by
  rw [P_impl_yheadMatches] at h
  refine Ev.of_eq ?_ (fun n => F_impl_yheadMatches_eq n a0 a1 a2)
  exact (Ev.ofBif h (fun h => (Ev.ofSome h)) (fun h => (Ev.ofBif h (fun h => (Ev.ofSome h)) (fun h => (Ev.ofBif h (fun h => (Ev.ofBind h fun y1 h => (Ev.ofSome h))) (fun h => (Ev.ofBif h (fun h => (Ev.ofSome h)) (fun h => (Ev.ofSome h)))))))))
theorem hcs_impl_yheadMatches : ∀ x ∈ cs_impl_yheadMatches, CtrOk Try.prog x := (conOf_cons ok_impl_yancestors conOf_nil)
theorem ok_impl_yheadMatches : CtrOk Try.prog c_impl_yheadMatches := by
  refine ctr_of_run (c := c_impl_yheadMatches) (by kernel_rfl : Try.prog.funcs[38]? = some Try.f38) (code := Try.f38.body.getD .skip) (by kernel_rfl) (by kernel_rfl) (by kernel_rfl) (A := A_impl_yheadMatches) (I := In_impl_yheadMatches) hcs_impl_yheadMatches ?_
  rintro ⟨a0, a1, a2, u⟩ y hy
  exact (S_impl_yheadMatches a0 a1 a2 hy).get

/-! ## impl.HeadMatches (13) -/
noncomputable def P_impl_HeadMatches (a0 : (List DThing)) (a1 : DHead) (a2 : DAtom) : Option Bool :=
  Option.bind (P_impl_GoodThings a0) fun (y1 : Bool) =>
  bif y1 then
    Option.bind (P_impl_ygoodHead a1 false) fun (y2 : Bool) =>
    bif y2 then
      Option.bind (P_impl_ygoodRef a2) fun (y3 : Bool) =>
      bif y3 then
        Option.bind (P_impl_yheadMatches a0 a1 a2) fun (y4 : Bool) =>
        some y4
      else
        some false
    else
      some false
  else
    some false
noncomputable def c_impl_HeadMatches : Ctr := ⟨13, [(.list TyThing), TyHead, TyAtom], [.bool], fun x => P_impl_HeadMatches x.1 x.2.1 x.2.2.1⟩
def A_impl_HeadMatches : List (List Nat × Ann) := []
def In_impl_HeadMatches : List (List Nat × Nat) := []
noncomputable def cs_impl_HeadMatches : List Ctr := [c_impl_GoodThings, c_impl_ygoodHead, c_impl_ygoodRef, c_impl_yheadMatches]
noncomputable def F_impl_HeadMatches (n : Nat) (a0 : (List DThing)) (a1 : DHead) (a2 : DAtom) : Option Bool := run Try.prog A_impl_HeadMatches In_impl_HeadMatches (conOf cs_impl_HeadMatches) Try.f13 (Try.f13.body.getD .skip) (packT [.bool]) n (argsV [(.list TyThing), TyHead, TyAtom] (a0, a1, a2, ()))
theorem F_impl_HeadMatches_eq (n : Nat) (a0 : (List DThing)) (a1 : DHead) (a2 : DAtom) : F_impl_HeadMatches n a0 a1 a2 =
    Option.bind (P_impl_GoodThings a0) fun (y1 : Bool) =>
    bif y1 then
      Option.bind (P_impl_ygoodHead a1 false) fun (y2 : Bool) =>
      bif y2 then
        Option.bind (P_impl_ygoodRef a2) fun (y3 : Bool) =>
        bif y3 then
          Option.bind (P_impl_yheadMatches a0 a1 a2) fun (y4 : Bool) =>
          some y4
        else
          some false
      else
        some false
    else
      some false := by kernel_rfl
theorem S_impl_HeadMatches (a0 : (List DThing)) (a1 : DHead) (a2 : DAtom) {r : Bool} (h : P_impl_HeadMatches a0 a1 a2 = some r) : Ev (fun n => F_impl_HeadMatches n a0 a1 a2) r := by
  rw [P_impl_HeadMatches] at h
  refine Ev.of_eq ?_ (fun n => F_impl_HeadMatches_eq n a0 a1 a2)
  exact (Ev.ofBind h fun y1 h => (Ev.ofBif h (fun h => (Ev.ofBind h fun y2 h => (Ev.ofBif h (fun h => (Ev.ofBind h fun y3 h => (Ev.ofBif h (fun h => (Ev.ofBind h fun y4 h => (Ev.ofSome h))) (fun h => (Ev.ofSome h))))) (fun h => (Ev.ofSome h))))) (fun h => (Ev.ofSome h))))
theorem hcs_impl_HeadMatches : ∀ x ∈ cs_impl_HeadMatches, CtrOk Try.prog x := (conOf_cons ok_impl_GoodThings (conOf_cons ok_impl_ygoodHead (conOf_cons ok_impl_ygoodRef (conOf_cons ok_impl_yheadMatches conOf_nil))))
theorem ok_impl_HeadMatches : CtrOk Try.prog c_impl_HeadMatches := by
  refine ctr_of_run (c := c_impl_HeadMatches) (by kernel_rfl : Try.prog.funcs[13]? = some Try.f13) (code := Try.f13.body.getD .skip) (by kernel_rfl) (by kernel_rfl) (by kernel_rfl) (A := A_impl_HeadMatches) (I := In_impl_HeadMatches) hcs_impl_HeadMatches ?_
  rintro ⟨a0, a1, a2, u⟩ y hy
  exact (S_impl_HeadMatches a0 a1 a2 hy).get

/-! ## laws.szAtom (8) -/
noncomputable def c_laws_szAtom : Ctr := ⟨8, [TyAtom, I64], [I64], fun x => szC TyAtom x.1 x.2.1⟩
def A_laws_szAtom : List (List Nat × Ann) := []
def In_laws_szAtom : List (List Nat × Nat) := []
noncomputable def cs_laws_szAtom : List Ctr := []
noncomputable def F_laws_szAtom (n : Nat) (a0 : DAtom) (a1 : Int) : Option Int := run Try.prog A_laws_szAtom In_laws_szAtom (conOf cs_laws_szAtom) Try.f8 (Try.f8.body.getD .skip) (packT [I64]) n (argsV [TyAtom, I64] (a0, a1, ()))
theorem F_laws_szAtom_eq (n : Nat) (a0 : DAtom) (a1 : Int) : F_laws_szAtom n a0 a1 =
    bif decide (IntKind.wrap .i64 (a1 - (a0.2.2.1.length : Int)) < 0) then
      some (-1)
    else
      bif decide (IntKind.wrap .i64 ((IntKind.wrap .i64 (a1 - (a0.2.2.1.length : Int))) - (a0.2.2.2.length : Int)) < 0) then
        some (-1)
      else
        some (IntKind.wrap .i64 ((IntKind.wrap .i64 (a1 - (a0.2.2.1.length : Int))) - (a0.2.2.2.length : Int))) := by kernel_rfl
theorem mk_laws_szAtom (hcs : ∀ x ∈ cs_laws_szAtom, CtrOk Try.prog x) (h : ∀ (a0 : DAtom) (a1 : Int) y, szC TyAtom a0 a1 = some y → ∃ n, F_laws_szAtom n a0 a1 = some y) : CtrOk Try.prog c_laws_szAtom := by
  refine ctr_of_run (c := c_laws_szAtom) (by kernel_rfl : Try.prog.funcs[8]? = some Try.f8) (code := Try.f8.body.getD .skip) (by kernel_rfl) (by kernel_rfl) (by kernel_rfl) (A := A_laws_szAtom) (I := In_laws_szAtom) hcs ?_
  rintro ⟨a0, a1, u⟩ y hy
  exact h a0 a1 y hy

theorem hcs_laws_szAtom : ∀ x ∈ cs_laws_szAtom, CtrOk Try.prog x := conOf_nil
theorem ok_laws_szAtom : CtrOk Try.prog c_laws_szAtom := mk_laws_szAtom hcs_laws_szAtom fun a0 a1 y hy => by
  obtain ⟨hw, h0, h1, rfl⟩ := szC_inv hy
  have hw2 : wfD I64 a0.1 ∧ wfD I64 a0.2.1 ∧ wfD .str a0.2.2.1 ∧ wfD .str a0.2.2.2 := hw
  have hsz : Ty.size TyAtom a0 = Ty.size I64 a0.1 + (Ty.size I64 a0.2.1 + (Ty.size .str a0.2.2.1 + (Ty.size .str a0.2.2.2))) := rfl
  have z0 : Ty.size I64 a0.1 = 0 := rfl
  have z1 : Ty.size I64 a0.2.1 = 0 := rfl
  have z2 : Ty.size .str a0.2.2.1 = a0.2.2.1.length := rfl
  have z3 : Ty.size .str a0.2.2.2 = a0.2.2.2.length := rfl
  refine ⟨0, ?_⟩
  rw [F_laws_szAtom_eq, hsz]
  have hn2 : a0.2.2.1.length ≤ maxLen := by have := (hw2.2.2.1).1; unfold maxLen; omega
  rw [lessZ_wrap (left := a1) (n := a0.2.2.1.length) (by omega) (by omega) hn2]
  rcases Int.lt_or_le (a1) (a0.2.2.1.length : Int) with h | h
  · rw [decide_eq_true (show (a1 - (a0.2.2.1.length : Int)) < 0 by omega)]; simp only [cond_true]; unfold lessZ; rw [if_neg (by omega)]
  rw [decide_eq_false (show ¬ (a1 - (a0.2.2.1.length : Int)) < 0 by omega)]; simp only [cond_false]
  have h_2 := h; clear h
  have hn3 : a0.2.2.2.length ≤ maxLen := by have := (hw2.2.2.2).1; unfold maxLen; omega
  rw [lessZ_wrap (left := (a1 - (a0.2.2.1.length : Int))) (n := a0.2.2.2.length) (by omega) (by omega) hn3]
  rcases Int.lt_or_le ((a1 - (a0.2.2.1.length : Int))) (a0.2.2.2.length : Int) with h | h
  · rw [decide_eq_true (show ((a1 - (a0.2.2.1.length : Int)) - (a0.2.2.2.length : Int)) < 0 by omega)]; simp only [cond_true]; unfold lessZ; rw [if_neg (by omega)]
  rw [decide_eq_false (show ¬ ((a1 - (a0.2.2.1.length : Int)) - (a0.2.2.2.length : Int)) < 0 by omega)]; simp only [cond_false]
  have h_3 := h; clear h
  unfold lessZ; rw [if_pos (by omega)]; congr 1; omega
/-! ## laws.szAtomS (77) -/
noncomputable def c_laws_szAtomS : Ctr := ⟨77, [(.list TyAtom), I64], [I64], fun x => szC (.list TyAtom) x.1 x.2.1⟩
def A_laws_szAtomS : List (List Nat × Ann) := [([0, 5], [.keep 0 0, .keep 0 1, .keep 0 5])]
def In_laws_szAtomS : List (List Nat × Nat) := []
noncomputable def cs_laws_szAtomS : List Ctr := [c_laws_szAtom]
noncomputable def F_laws_szAtomS (n : Nat) (a0 : (List DAtom)) (a1 : Int) : Option Int := run Try.prog A_laws_szAtomS In_laws_szAtomS (conOf cs_laws_szAtomS) Try.f77 (Try.f77.body.getD .skip) (packT [I64]) n (argsV [(.list TyAtom), I64] (a0, a1, ()))
noncomputable abbrev L_laws_szAtomS_0_5 (n : Nat) (x1 : (List DAtom)) (x2 : Int) (x3 : Int) : Option Int := lam Try.prog A_laws_szAtomS In_laws_szAtomS (conOf cs_laws_szAtomS) Try.f77 (Try.f77.body.getD .skip) (packT [I64]) n [0, 5] [.d (.list TyAtom) x1, .d I64 x2, .d I64 x3]
theorem F_laws_szAtomS_eq (n : Nat) (a0 : (List DAtom)) (a1 : Int) : F_laws_szAtomS n a0 a1 =
    bif decide (IntKind.wrap .i64 (a1 - (a0.length : Int)) < 0) then
      some (-1)
    else
      L_laws_szAtomS_0_5 n a0 (IntKind.wrap .i64 (a1 - (a0.length : Int))) 0 := by kernel_rfl
theorem L_laws_szAtomS_0_5_eq (n : Nat) (x1 : (List DAtom)) (x2 : Int) (x3 : Int) : L_laws_szAtomS_0_5 (n + 1) x1 x2 x3 =
    bif decide (x3 < (x1.length : Int)) then
      bif inB x3 x1.length then
        Option.bind (szC TyAtom (rd x1 x3 (Ty.dflt TyAtom)) x2) fun (y1 : Int) =>
        bif decide (y1 < 0) then
          some (-1)
        else
          L_laws_szAtomS_0_5 n x1 y1 (IntKind.wrap .i64 (x3 + 1))
      else none
    else
      some x2 := by kernel_rfl
theorem mk_laws_szAtomS (hcs : ∀ x ∈ cs_laws_szAtomS, CtrOk Try.prog x) (h : ∀ (a0 : (List DAtom)) (a1 : Int) y, szC (.list TyAtom) a0 a1 = some y → ∃ n, F_laws_szAtomS n a0 a1 = some y) : CtrOk Try.prog c_laws_szAtomS := by
  refine ctr_of_run (c := c_laws_szAtomS) (by kernel_rfl : Try.prog.funcs[77]? = some Try.f77) (code := Try.f77.body.getD .skip) (by kernel_rfl) (by kernel_rfl) (by kernel_rfl) (A := A_laws_szAtomS) (I := In_laws_szAtomS) hcs ?_
  rintro ⟨a0, a1, u⟩ y hy
  exact h a0 a1 y hy

theorem hcs_laws_szAtomS : ∀ x ∈ cs_laws_szAtomS, CtrOk Try.prog x := (conOf_cons ok_laws_szAtom conOf_nil)
theorem ok_laws_szAtomS : CtrOk Try.prog c_laws_szAtomS := mk_laws_szAtomS hcs_laws_szAtomS fun a0 a1 y hy => by
  obtain ⟨n, hn⟩ := szS_call (fun n xs s i => L_laws_szAtomS_0_5_eq n xs s i) hy
  exact ⟨n, (F_laws_szAtomS_eq n a0 a1).trans hn⟩
/-! ## laws.szStringS (42) -/
noncomputable def c_laws_szStringS : Ctr := ⟨42, [(.list .str), I64], [I64], fun x => szC (.list .str) x.1 x.2.1⟩
def A_laws_szStringS : List (List Nat × Ann) := [([0, 5], [.keep 0 0, .keep 0 1, .keep 0 5])]
def In_laws_szStringS : List (List Nat × Nat) := []
noncomputable def cs_laws_szStringS : List Ctr := []
noncomputable def F_laws_szStringS (n : Nat) (a0 : (List (List Int))) (a1 : Int) : Option Int := run Try.prog A_laws_szStringS In_laws_szStringS (conOf cs_laws_szStringS) Try.f42 (Try.f42.body.getD .skip) (packT [I64]) n (argsV [(.list .str), I64] (a0, a1, ()))
noncomputable abbrev L_laws_szStringS_0_5 (n : Nat) (x1 : (List (List Int))) (x2 : Int) (x3 : Int) : Option Int := lam Try.prog A_laws_szStringS In_laws_szStringS (conOf cs_laws_szStringS) Try.f42 (Try.f42.body.getD .skip) (packT [I64]) n [0, 5] [.d (.list .str) x1, .d I64 x2, .d I64 x3]
theorem F_laws_szStringS_eq (n : Nat) (a0 : (List (List Int))) (a1 : Int) : F_laws_szStringS n a0 a1 =
    bif decide (IntKind.wrap .i64 (a1 - (a0.length : Int)) < 0) then
      some (-1)
    else
      L_laws_szStringS_0_5 n a0 (IntKind.wrap .i64 (a1 - (a0.length : Int))) 0 := by kernel_rfl
theorem L_laws_szStringS_0_5_eq (n : Nat) (x1 : (List (List Int))) (x2 : Int) (x3 : Int) : L_laws_szStringS_0_5 (n + 1) x1 x2 x3 =
    bif decide (x3 < (x1.length : Int)) then
      bif inB x3 x1.length then
        bif decide (IntKind.wrap .i64 (x2 - ((rd x1 x3 (Ty.dflt .str)).length : Int)) < 0) then
          some (-1)
        else
          L_laws_szStringS_0_5 n x1 (IntKind.wrap .i64 (x2 - ((rd x1 x3 (Ty.dflt .str)).length : Int))) (IntKind.wrap .i64 (x3 + 1))
      else none
    else
      some x2 := by kernel_rfl
theorem mk_laws_szStringS (hcs : ∀ x ∈ cs_laws_szStringS, CtrOk Try.prog x) (h : ∀ (a0 : (List (List Int))) (a1 : Int) y, szC (.list .str) a0 a1 = some y → ∃ n, F_laws_szStringS n a0 a1 = some y) : CtrOk Try.prog c_laws_szStringS := by
  refine ctr_of_run (c := c_laws_szStringS) (by kernel_rfl : Try.prog.funcs[42]? = some Try.f42) (code := Try.f42.body.getD .skip) (by kernel_rfl) (by kernel_rfl) (by kernel_rfl) (A := A_laws_szStringS) (I := In_laws_szStringS) hcs ?_
  rintro ⟨a0, a1, u⟩ y hy
  exact h a0 a1 y hy

theorem hcs_laws_szStringS : ∀ x ∈ cs_laws_szStringS, CtrOk Try.prog x := conOf_nil
theorem ok_laws_szStringS : CtrOk Try.prog c_laws_szStringS := mk_laws_szStringS hcs_laws_szStringS fun a0 a1 y hy => by
  obtain ⟨n, hn⟩ := szS_str (fun n xs s i => L_laws_szStringS_0_5_eq n xs s i) hy
  exact ⟨n, (F_laws_szStringS_eq n a0 a1).trans hn⟩
/-! ## laws.szValue (129) -/
noncomputable def c_laws_szValue : Ctr := ⟨129, [TyValue, I64], [I64], fun x => szC TyValue x.1 x.2.1⟩
def A_laws_szValue : List (List Nat × Ann) := []
def In_laws_szValue : List (List Nat × Nat) := []
noncomputable def cs_laws_szValue : List Ctr := [c_laws_szAtom, c_laws_szAtomS, c_laws_szStringS]
noncomputable def F_laws_szValue (n : Nat) (a0 : DValue) (a1 : Int) : Option Int := run Try.prog A_laws_szValue In_laws_szValue (conOf cs_laws_szValue) Try.f129 (Try.f129.body.getD .skip) (packT [I64]) n (argsV [TyValue, I64] (a0, a1, ()))
theorem F_laws_szValue_eq (n : Nat) (a0 : DValue) (a1 : Int) : F_laws_szValue n a0 a1 =
    Option.bind (szC TyAtom a0.2.1 a1) fun (y1 : Int) =>
    bif decide (y1 < 0) then
      some (-1)
    else
      Option.bind (szC (.list TyAtom) a0.2.2.1 y1) fun (y2 : Int) =>
      bif decide (y2 < 0) then
        some (-1)
      else
        Option.bind (szC (.list .str) a0.2.2.2 y2) fun (y3 : Int) =>
        bif decide (y3 < 0) then
          some (-1)
        else
          some y3 := by kernel_rfl
theorem mk_laws_szValue (hcs : ∀ x ∈ cs_laws_szValue, CtrOk Try.prog x) (h : ∀ (a0 : DValue) (a1 : Int) y, szC TyValue a0 a1 = some y → ∃ n, F_laws_szValue n a0 a1 = some y) : CtrOk Try.prog c_laws_szValue := by
  refine ctr_of_run (c := c_laws_szValue) (by kernel_rfl : Try.prog.funcs[129]? = some Try.f129) (code := Try.f129.body.getD .skip) (by kernel_rfl) (by kernel_rfl) (by kernel_rfl) (A := A_laws_szValue) (I := In_laws_szValue) hcs ?_
  rintro ⟨a0, a1, u⟩ y hy
  exact h a0 a1 y hy

theorem hcs_laws_szValue : ∀ x ∈ cs_laws_szValue, CtrOk Try.prog x := (conOf_cons ok_laws_szAtom (conOf_cons ok_laws_szAtomS (conOf_cons ok_laws_szStringS conOf_nil)))
theorem ok_laws_szValue : CtrOk Try.prog c_laws_szValue := mk_laws_szValue hcs_laws_szValue fun a0 a1 y hy => by
  obtain ⟨hw, h0, h1, rfl⟩ := szC_inv hy
  have hw2 : wfD I64 a0.1 ∧ wfD TyAtom a0.2.1 ∧ wfD (.list TyAtom) a0.2.2.1 ∧ wfD (.list .str) a0.2.2.2 := hw
  have hsz : Ty.size TyValue a0 = Ty.size I64 a0.1 + (Ty.size TyAtom a0.2.1 + (Ty.size (.list TyAtom) a0.2.2.1 + (Ty.size (.list .str) a0.2.2.2))) := rfl
  have z0 : Ty.size I64 a0.1 = 0 := rfl
  refine ⟨0, ?_⟩
  rw [F_laws_szValue_eq, hsz]
  rw [szC_some hw2.2.1 (show 0 ≤ a1 by omega) (by omega)]
  simp only [Option.bind_some]
  rcases Int.lt_or_le (a1) ((Ty.size TyAtom a0.2.1 : Nat) : Int) with h | h
  · rw [show lessZ (a1) (Ty.size TyAtom a0.2.1) = -1 by unfold lessZ; rw [if_neg (by omega)]]; rw [decide_eq_true (show (-1 : Int) < 0 by omega)]; simp only [cond_true]; unfold lessZ; rw [if_neg (by omega)]
  rw [show lessZ (a1) (Ty.size TyAtom a0.2.1) = (a1 - ((Ty.size TyAtom a0.2.1 : Nat) : Int)) by unfold lessZ; rw [if_pos h]]; rw [decide_eq_false (show ¬ (a1 - ((Ty.size TyAtom a0.2.1 : Nat) : Int)) < 0 by omega)]; simp only [cond_false]
  have h_1 := h; clear h
  rw [szC_some hw2.2.2.1 (show 0 ≤ (a1 - ((Ty.size TyAtom a0.2.1 : Nat) : Int)) by omega) (by omega)]
  simp only [Option.bind_some]
  rcases Int.lt_or_le ((a1 - ((Ty.size TyAtom a0.2.1 : Nat) : Int))) ((Ty.size (.list TyAtom) a0.2.2.1 : Nat) : Int) with h | h
  · rw [show lessZ ((a1 - ((Ty.size TyAtom a0.2.1 : Nat) : Int))) (Ty.size (.list TyAtom) a0.2.2.1) = -1 by unfold lessZ; rw [if_neg (by omega)]]; rw [decide_eq_true (show (-1 : Int) < 0 by omega)]; simp only [cond_true]; unfold lessZ; rw [if_neg (by omega)]
  rw [show lessZ ((a1 - ((Ty.size TyAtom a0.2.1 : Nat) : Int))) (Ty.size (.list TyAtom) a0.2.2.1) = ((a1 - ((Ty.size TyAtom a0.2.1 : Nat) : Int)) - ((Ty.size (.list TyAtom) a0.2.2.1 : Nat) : Int)) by unfold lessZ; rw [if_pos h]]; rw [decide_eq_false (show ¬ ((a1 - ((Ty.size TyAtom a0.2.1 : Nat) : Int)) - ((Ty.size (.list TyAtom) a0.2.2.1 : Nat) : Int)) < 0 by omega)]; simp only [cond_false]
  have h_2 := h; clear h
  rw [szC_some hw2.2.2.2 (show 0 ≤ ((a1 - ((Ty.size TyAtom a0.2.1 : Nat) : Int)) - ((Ty.size (.list TyAtom) a0.2.2.1 : Nat) : Int)) by omega) (by omega)]
  simp only [Option.bind_some]
  rcases Int.lt_or_le (((a1 - ((Ty.size TyAtom a0.2.1 : Nat) : Int)) - ((Ty.size (.list TyAtom) a0.2.2.1 : Nat) : Int))) ((Ty.size (.list .str) a0.2.2.2 : Nat) : Int) with h | h
  · rw [show lessZ (((a1 - ((Ty.size TyAtom a0.2.1 : Nat) : Int)) - ((Ty.size (.list TyAtom) a0.2.2.1 : Nat) : Int))) (Ty.size (.list .str) a0.2.2.2) = -1 by unfold lessZ; rw [if_neg (by omega)]]; rw [decide_eq_true (show (-1 : Int) < 0 by omega)]; simp only [cond_true]; unfold lessZ; rw [if_neg (by omega)]
  rw [show lessZ (((a1 - ((Ty.size TyAtom a0.2.1 : Nat) : Int)) - ((Ty.size (.list TyAtom) a0.2.2.1 : Nat) : Int))) (Ty.size (.list .str) a0.2.2.2) = (((a1 - ((Ty.size TyAtom a0.2.1 : Nat) : Int)) - ((Ty.size (.list TyAtom) a0.2.2.1 : Nat) : Int)) - ((Ty.size (.list .str) a0.2.2.2 : Nat) : Int)) by unfold lessZ; rw [if_pos h]]; rw [decide_eq_false (show ¬ (((a1 - ((Ty.size TyAtom a0.2.1 : Nat) : Int)) - ((Ty.size (.list TyAtom) a0.2.2.1 : Nat) : Int)) - ((Ty.size (.list .str) a0.2.2.2 : Nat) : Int)) < 0 by omega)]; simp only [cond_false]
  have h_3 := h; clear h
  unfold lessZ; rw [if_pos (by omega)]; congr 1; omega
/-! ## laws.szValueS (78) -/
noncomputable def c_laws_szValueS : Ctr := ⟨78, [(.list TyValue), I64], [I64], fun x => szC (.list TyValue) x.1 x.2.1⟩
def A_laws_szValueS : List (List Nat × Ann) := [([0, 5], [.keep 0 0, .keep 0 1, .keep 0 5])]
def In_laws_szValueS : List (List Nat × Nat) := []
noncomputable def cs_laws_szValueS : List Ctr := [c_laws_szValue]
noncomputable def F_laws_szValueS (n : Nat) (a0 : (List DValue)) (a1 : Int) : Option Int := run Try.prog A_laws_szValueS In_laws_szValueS (conOf cs_laws_szValueS) Try.f78 (Try.f78.body.getD .skip) (packT [I64]) n (argsV [(.list TyValue), I64] (a0, a1, ()))
noncomputable abbrev L_laws_szValueS_0_5 (n : Nat) (x1 : (List DValue)) (x2 : Int) (x3 : Int) : Option Int := lam Try.prog A_laws_szValueS In_laws_szValueS (conOf cs_laws_szValueS) Try.f78 (Try.f78.body.getD .skip) (packT [I64]) n [0, 5] [.d (.list TyValue) x1, .d I64 x2, .d I64 x3]
theorem F_laws_szValueS_eq (n : Nat) (a0 : (List DValue)) (a1 : Int) : F_laws_szValueS n a0 a1 =
    bif decide (IntKind.wrap .i64 (a1 - (a0.length : Int)) < 0) then
      some (-1)
    else
      L_laws_szValueS_0_5 n a0 (IntKind.wrap .i64 (a1 - (a0.length : Int))) 0 := by kernel_rfl
theorem L_laws_szValueS_0_5_eq (n : Nat) (x1 : (List DValue)) (x2 : Int) (x3 : Int) : L_laws_szValueS_0_5 (n + 1) x1 x2 x3 =
    bif decide (x3 < (x1.length : Int)) then
      bif inB x3 x1.length then
        Option.bind (szC TyValue (rd x1 x3 (Ty.dflt TyValue)) x2) fun (y1 : Int) =>
        bif decide (y1 < 0) then
          some (-1)
        else
          L_laws_szValueS_0_5 n x1 y1 (IntKind.wrap .i64 (x3 + 1))
      else none
    else
      some x2 := by kernel_rfl
theorem mk_laws_szValueS (hcs : ∀ x ∈ cs_laws_szValueS, CtrOk Try.prog x) (h : ∀ (a0 : (List DValue)) (a1 : Int) y, szC (.list TyValue) a0 a1 = some y → ∃ n, F_laws_szValueS n a0 a1 = some y) : CtrOk Try.prog c_laws_szValueS := by
  refine ctr_of_run (c := c_laws_szValueS) (by kernel_rfl : Try.prog.funcs[78]? = some Try.f78) (code := Try.f78.body.getD .skip) (by kernel_rfl) (by kernel_rfl) (by kernel_rfl) (A := A_laws_szValueS) (I := In_laws_szValueS) hcs ?_
  rintro ⟨a0, a1, u⟩ y hy
  exact h a0 a1 y hy

theorem hcs_laws_szValueS : ∀ x ∈ cs_laws_szValueS, CtrOk Try.prog x := (conOf_cons ok_laws_szValue conOf_nil)
theorem ok_laws_szValueS : CtrOk Try.prog c_laws_szValueS := mk_laws_szValueS hcs_laws_szValueS fun a0 a1 y hy => by
  obtain ⟨n, hn⟩ := szS_call (fun n xs s i => L_laws_szValueS_0_5_eq n xs s i) hy
  exact ⟨n, (F_laws_szValueS_eq n a0 a1).trans hn⟩
/-! ## laws.szThing (29) -/
noncomputable def c_laws_szThing : Ctr := ⟨29, [TyThing, I64], [I64], fun x => szC TyThing x.1 x.2.1⟩
def A_laws_szThing : List (List Nat × Ann) := []
def In_laws_szThing : List (List Nat × Nat) := []
noncomputable def cs_laws_szThing : List Ctr := [c_laws_szAtom, c_laws_szAtomS, c_laws_szStringS, c_laws_szValueS]
noncomputable def F_laws_szThing (n : Nat) (a0 : DThing) (a1 : Int) : Option Int := run Try.prog A_laws_szThing In_laws_szThing (conOf cs_laws_szThing) Try.f29 (Try.f29.body.getD .skip) (packT [I64]) n (argsV [TyThing, I64] (a0, a1, ()))
theorem F_laws_szThing_eq (n : Nat) (a0 : DThing) (a1 : Int) : F_laws_szThing n a0 a1 =
    Option.bind (szC TyAtom a0.1 a1) fun (y1 : Int) =>
    bif decide (y1 < 0) then
      some (-1)
    else
      Option.bind (szC (.list TyAtom) a0.2.1 y1) fun (y2 : Int) =>
      bif decide (y2 < 0) then
        some (-1)
      else
        Option.bind (szC (.list .str) a0.2.2.1 y2) fun (y3 : Int) =>
        bif decide (y3 < 0) then
          some (-1)
        else
          Option.bind (szC (.list TyValue) a0.2.2.2 y3) fun (y4 : Int) =>
          bif decide (y4 < 0) then
            some (-1)
          else
            some y4 := by kernel_rfl
theorem mk_laws_szThing (hcs : ∀ x ∈ cs_laws_szThing, CtrOk Try.prog x) (h : ∀ (a0 : DThing) (a1 : Int) y, szC TyThing a0 a1 = some y → ∃ n, F_laws_szThing n a0 a1 = some y) : CtrOk Try.prog c_laws_szThing := by
  refine ctr_of_run (c := c_laws_szThing) (by kernel_rfl : Try.prog.funcs[29]? = some Try.f29) (code := Try.f29.body.getD .skip) (by kernel_rfl) (by kernel_rfl) (by kernel_rfl) (A := A_laws_szThing) (I := In_laws_szThing) hcs ?_
  rintro ⟨a0, a1, u⟩ y hy
  exact h a0 a1 y hy

theorem hcs_laws_szThing : ∀ x ∈ cs_laws_szThing, CtrOk Try.prog x := (conOf_cons ok_laws_szAtom (conOf_cons ok_laws_szAtomS (conOf_cons ok_laws_szStringS (conOf_cons ok_laws_szValueS conOf_nil))))
theorem ok_laws_szThing : CtrOk Try.prog c_laws_szThing := mk_laws_szThing hcs_laws_szThing fun a0 a1 y hy => by
  obtain ⟨hw, h0, h1, rfl⟩ := szC_inv hy
  have hw2 : wfD TyAtom a0.1 ∧ wfD (.list TyAtom) a0.2.1 ∧ wfD (.list .str) a0.2.2.1 ∧ wfD (.list TyValue) a0.2.2.2 := hw
  have hsz : Ty.size TyThing a0 = Ty.size TyAtom a0.1 + (Ty.size (.list TyAtom) a0.2.1 + (Ty.size (.list .str) a0.2.2.1 + (Ty.size (.list TyValue) a0.2.2.2))) := rfl
  refine ⟨0, ?_⟩
  rw [F_laws_szThing_eq, hsz]
  rw [szC_some hw2.1 (show 0 ≤ a1 by omega) (by omega)]
  simp only [Option.bind_some]
  rcases Int.lt_or_le (a1) ((Ty.size TyAtom a0.1 : Nat) : Int) with h | h
  · rw [show lessZ (a1) (Ty.size TyAtom a0.1) = -1 by unfold lessZ; rw [if_neg (by omega)]]; rw [decide_eq_true (show (-1 : Int) < 0 by omega)]; simp only [cond_true]; unfold lessZ; rw [if_neg (by omega)]
  rw [show lessZ (a1) (Ty.size TyAtom a0.1) = (a1 - ((Ty.size TyAtom a0.1 : Nat) : Int)) by unfold lessZ; rw [if_pos h]]; rw [decide_eq_false (show ¬ (a1 - ((Ty.size TyAtom a0.1 : Nat) : Int)) < 0 by omega)]; simp only [cond_false]
  have h_0 := h; clear h
  rw [szC_some hw2.2.1 (show 0 ≤ (a1 - ((Ty.size TyAtom a0.1 : Nat) : Int)) by omega) (by omega)]
  simp only [Option.bind_some]
  rcases Int.lt_or_le ((a1 - ((Ty.size TyAtom a0.1 : Nat) : Int))) ((Ty.size (.list TyAtom) a0.2.1 : Nat) : Int) with h | h
  · rw [show lessZ ((a1 - ((Ty.size TyAtom a0.1 : Nat) : Int))) (Ty.size (.list TyAtom) a0.2.1) = -1 by unfold lessZ; rw [if_neg (by omega)]]; rw [decide_eq_true (show (-1 : Int) < 0 by omega)]; simp only [cond_true]; unfold lessZ; rw [if_neg (by omega)]
  rw [show lessZ ((a1 - ((Ty.size TyAtom a0.1 : Nat) : Int))) (Ty.size (.list TyAtom) a0.2.1) = ((a1 - ((Ty.size TyAtom a0.1 : Nat) : Int)) - ((Ty.size (.list TyAtom) a0.2.1 : Nat) : Int)) by unfold lessZ; rw [if_pos h]]; rw [decide_eq_false (show ¬ ((a1 - ((Ty.size TyAtom a0.1 : Nat) : Int)) - ((Ty.size (.list TyAtom) a0.2.1 : Nat) : Int)) < 0 by omega)]; simp only [cond_false]
  have h_1 := h; clear h
  rw [szC_some hw2.2.2.1 (show 0 ≤ ((a1 - ((Ty.size TyAtom a0.1 : Nat) : Int)) - ((Ty.size (.list TyAtom) a0.2.1 : Nat) : Int)) by omega) (by omega)]
  simp only [Option.bind_some]
  rcases Int.lt_or_le (((a1 - ((Ty.size TyAtom a0.1 : Nat) : Int)) - ((Ty.size (.list TyAtom) a0.2.1 : Nat) : Int))) ((Ty.size (.list .str) a0.2.2.1 : Nat) : Int) with h | h
  · rw [show lessZ (((a1 - ((Ty.size TyAtom a0.1 : Nat) : Int)) - ((Ty.size (.list TyAtom) a0.2.1 : Nat) : Int))) (Ty.size (.list .str) a0.2.2.1) = -1 by unfold lessZ; rw [if_neg (by omega)]]; rw [decide_eq_true (show (-1 : Int) < 0 by omega)]; simp only [cond_true]; unfold lessZ; rw [if_neg (by omega)]
  rw [show lessZ (((a1 - ((Ty.size TyAtom a0.1 : Nat) : Int)) - ((Ty.size (.list TyAtom) a0.2.1 : Nat) : Int))) (Ty.size (.list .str) a0.2.2.1) = (((a1 - ((Ty.size TyAtom a0.1 : Nat) : Int)) - ((Ty.size (.list TyAtom) a0.2.1 : Nat) : Int)) - ((Ty.size (.list .str) a0.2.2.1 : Nat) : Int)) by unfold lessZ; rw [if_pos h]]; rw [decide_eq_false (show ¬ (((a1 - ((Ty.size TyAtom a0.1 : Nat) : Int)) - ((Ty.size (.list TyAtom) a0.2.1 : Nat) : Int)) - ((Ty.size (.list .str) a0.2.2.1 : Nat) : Int)) < 0 by omega)]; simp only [cond_false]
  have h_2 := h; clear h
  rw [szC_some hw2.2.2.2 (show 0 ≤ (((a1 - ((Ty.size TyAtom a0.1 : Nat) : Int)) - ((Ty.size (.list TyAtom) a0.2.1 : Nat) : Int)) - ((Ty.size (.list .str) a0.2.2.1 : Nat) : Int)) by omega) (by omega)]
  simp only [Option.bind_some]
  rcases Int.lt_or_le ((((a1 - ((Ty.size TyAtom a0.1 : Nat) : Int)) - ((Ty.size (.list TyAtom) a0.2.1 : Nat) : Int)) - ((Ty.size (.list .str) a0.2.2.1 : Nat) : Int))) ((Ty.size (.list TyValue) a0.2.2.2 : Nat) : Int) with h | h
  · rw [show lessZ ((((a1 - ((Ty.size TyAtom a0.1 : Nat) : Int)) - ((Ty.size (.list TyAtom) a0.2.1 : Nat) : Int)) - ((Ty.size (.list .str) a0.2.2.1 : Nat) : Int))) (Ty.size (.list TyValue) a0.2.2.2) = -1 by unfold lessZ; rw [if_neg (by omega)]]; rw [decide_eq_true (show (-1 : Int) < 0 by omega)]; simp only [cond_true]; unfold lessZ; rw [if_neg (by omega)]
  rw [show lessZ ((((a1 - ((Ty.size TyAtom a0.1 : Nat) : Int)) - ((Ty.size (.list TyAtom) a0.2.1 : Nat) : Int)) - ((Ty.size (.list .str) a0.2.2.1 : Nat) : Int))) (Ty.size (.list TyValue) a0.2.2.2) = ((((a1 - ((Ty.size TyAtom a0.1 : Nat) : Int)) - ((Ty.size (.list TyAtom) a0.2.1 : Nat) : Int)) - ((Ty.size (.list .str) a0.2.2.1 : Nat) : Int)) - ((Ty.size (.list TyValue) a0.2.2.2 : Nat) : Int)) by unfold lessZ; rw [if_pos h]]; rw [decide_eq_false (show ¬ ((((a1 - ((Ty.size TyAtom a0.1 : Nat) : Int)) - ((Ty.size (.list TyAtom) a0.2.1 : Nat) : Int)) - ((Ty.size (.list .str) a0.2.2.1 : Nat) : Int)) - ((Ty.size (.list TyValue) a0.2.2.2 : Nat) : Int)) < 0 by omega)]; simp only [cond_false]
  have h_3 := h; clear h
  unfold lessZ; rw [if_pos (by omega)]; congr 1; omega
/-! ## laws.szThingS (6) -/
noncomputable def c_laws_szThingS : Ctr := ⟨6, [(.list TyThing), I64], [I64], fun x => szC (.list TyThing) x.1 x.2.1⟩
def A_laws_szThingS : List (List Nat × Ann) := [([0, 5], [.keep 0 0, .keep 0 1, .keep 0 5])]
def In_laws_szThingS : List (List Nat × Nat) := []
noncomputable def cs_laws_szThingS : List Ctr := [c_laws_szThing]
noncomputable def F_laws_szThingS (n : Nat) (a0 : (List DThing)) (a1 : Int) : Option Int := run Try.prog A_laws_szThingS In_laws_szThingS (conOf cs_laws_szThingS) Try.f6 (Try.f6.body.getD .skip) (packT [I64]) n (argsV [(.list TyThing), I64] (a0, a1, ()))
noncomputable abbrev L_laws_szThingS_0_5 (n : Nat) (x1 : (List DThing)) (x2 : Int) (x3 : Int) : Option Int := lam Try.prog A_laws_szThingS In_laws_szThingS (conOf cs_laws_szThingS) Try.f6 (Try.f6.body.getD .skip) (packT [I64]) n [0, 5] [.d (.list TyThing) x1, .d I64 x2, .d I64 x3]
theorem F_laws_szThingS_eq (n : Nat) (a0 : (List DThing)) (a1 : Int) : F_laws_szThingS n a0 a1 =
    bif decide (IntKind.wrap .i64 (a1 - (a0.length : Int)) < 0) then
      some (-1)
    else
      L_laws_szThingS_0_5 n a0 (IntKind.wrap .i64 (a1 - (a0.length : Int))) 0 := by kernel_rfl
theorem L_laws_szThingS_0_5_eq (n : Nat) (x1 : (List DThing)) (x2 : Int) (x3 : Int) : L_laws_szThingS_0_5 (n + 1) x1 x2 x3 =
    bif decide (x3 < (x1.length : Int)) then
      bif inB x3 x1.length then
        Option.bind (szC TyThing (((rd x1 x3 (Ty.dflt TyThing)).1), ((rd x1 x3 (Ty.dflt TyThing)).2)) x2) fun (y1 : Int) =>
        bif decide (y1 < 0) then
          some (-1)
        else
          L_laws_szThingS_0_5 n x1 y1 (IntKind.wrap .i64 (x3 + 1))
      else none
    else
      some x2 := by kernel_rfl
theorem mk_laws_szThingS (hcs : ∀ x ∈ cs_laws_szThingS, CtrOk Try.prog x) (h : ∀ (a0 : (List DThing)) (a1 : Int) y, szC (.list TyThing) a0 a1 = some y → ∃ n, F_laws_szThingS n a0 a1 = some y) : CtrOk Try.prog c_laws_szThingS := by
  refine ctr_of_run (c := c_laws_szThingS) (by kernel_rfl : Try.prog.funcs[6]? = some Try.f6) (code := Try.f6.body.getD .skip) (by kernel_rfl) (by kernel_rfl) (by kernel_rfl) (A := A_laws_szThingS) (I := In_laws_szThingS) hcs ?_
  rintro ⟨a0, a1, u⟩ y hy
  exact h a0 a1 y hy

theorem hcs_laws_szThingS : ∀ x ∈ cs_laws_szThingS, CtrOk Try.prog x := (conOf_cons ok_laws_szThing conOf_nil)
theorem ok_laws_szThingS : CtrOk Try.prog c_laws_szThingS := mk_laws_szThingS hcs_laws_szThingS fun a0 a1 y hy => by
  obtain ⟨n, hn⟩ := szS_call (fun n xs s i => L_laws_szThingS_0_5_eq n xs s i) hy
  exact ⟨n, (F_laws_szThingS_eq n a0 a1).trans hn⟩
/-! ## laws.szHead (7) -/
noncomputable def c_laws_szHead : Ctr := ⟨7, [TyHead, I64], [I64], fun x => szC TyHead x.1 x.2.1⟩
def A_laws_szHead : List (List Nat × Ann) := []
def In_laws_szHead : List (List Nat × Nat) := []
noncomputable def cs_laws_szHead : List Ctr := [c_laws_szAtom]
noncomputable def F_laws_szHead (n : Nat) (a0 : DHead) (a1 : Int) : Option Int := run Try.prog A_laws_szHead In_laws_szHead (conOf cs_laws_szHead) Try.f7 (Try.f7.body.getD .skip) (packT [I64]) n (argsV [TyHead, I64] (a0, a1, ()))
theorem F_laws_szHead_eq (n : Nat) (a0 : DHead) (a1 : Int) : F_laws_szHead n a0 a1 =
    Option.bind (szC TyAtom a0.2.1 a1) fun (y1 : Int) =>
    bif decide (y1 < 0) then
      some (-1)
    else
      bif decide (IntKind.wrap .i64 (y1 - (a0.2.2.length : Int)) < 0) then
        some (-1)
      else
        some (IntKind.wrap .i64 (y1 - (a0.2.2.length : Int))) := by kernel_rfl
theorem mk_laws_szHead (hcs : ∀ x ∈ cs_laws_szHead, CtrOk Try.prog x) (h : ∀ (a0 : DHead) (a1 : Int) y, szC TyHead a0 a1 = some y → ∃ n, F_laws_szHead n a0 a1 = some y) : CtrOk Try.prog c_laws_szHead := by
  refine ctr_of_run (c := c_laws_szHead) (by kernel_rfl : Try.prog.funcs[7]? = some Try.f7) (code := Try.f7.body.getD .skip) (by kernel_rfl) (by kernel_rfl) (by kernel_rfl) (A := A_laws_szHead) (I := In_laws_szHead) hcs ?_
  rintro ⟨a0, a1, u⟩ y hy
  exact h a0 a1 y hy

theorem hcs_laws_szHead : ∀ x ∈ cs_laws_szHead, CtrOk Try.prog x := (conOf_cons ok_laws_szAtom conOf_nil)
theorem ok_laws_szHead : CtrOk Try.prog c_laws_szHead := mk_laws_szHead hcs_laws_szHead fun a0 a1 y hy => by
  obtain ⟨hw, h0, h1, rfl⟩ := szC_inv hy
  have hw2 : wfD I64 a0.1 ∧ wfD TyAtom a0.2.1 ∧ wfD .str a0.2.2 := hw
  have hsz : Ty.size TyHead a0 = Ty.size I64 a0.1 + (Ty.size TyAtom a0.2.1 + (Ty.size .str a0.2.2)) := rfl
  have z0 : Ty.size I64 a0.1 = 0 := rfl
  have z2 : Ty.size .str a0.2.2 = a0.2.2.length := rfl
  refine ⟨0, ?_⟩
  rw [F_laws_szHead_eq, hsz]
  rw [szC_some hw2.2.1 (show 0 ≤ a1 by omega) (by omega)]
  simp only [Option.bind_some]
  rcases Int.lt_or_le (a1) ((Ty.size TyAtom a0.2.1 : Nat) : Int) with h | h
  · rw [show lessZ (a1) (Ty.size TyAtom a0.2.1) = -1 by unfold lessZ; rw [if_neg (by omega)]]; rw [decide_eq_true (show (-1 : Int) < 0 by omega)]; simp only [cond_true]; unfold lessZ; rw [if_neg (by omega)]
  rw [show lessZ (a1) (Ty.size TyAtom a0.2.1) = (a1 - ((Ty.size TyAtom a0.2.1 : Nat) : Int)) by unfold lessZ; rw [if_pos h]]; rw [decide_eq_false (show ¬ (a1 - ((Ty.size TyAtom a0.2.1 : Nat) : Int)) < 0 by omega)]; simp only [cond_false]
  have h_1 := h; clear h
  have hn2 : a0.2.2.length ≤ maxLen := by have := (hw2.2.2).1; unfold maxLen; omega
  rw [lessZ_wrap (left := (a1 - ((Ty.size TyAtom a0.2.1 : Nat) : Int))) (n := a0.2.2.length) (by omega) (by omega) hn2]
  rcases Int.lt_or_le ((a1 - ((Ty.size TyAtom a0.2.1 : Nat) : Int))) (a0.2.2.length : Int) with h | h
  · rw [decide_eq_true (show ((a1 - ((Ty.size TyAtom a0.2.1 : Nat) : Int)) - (a0.2.2.length : Int)) < 0 by omega)]; simp only [cond_true]; unfold lessZ; rw [if_neg (by omega)]
  rw [decide_eq_false (show ¬ ((a1 - ((Ty.size TyAtom a0.2.1 : Nat) : Int)) - (a0.2.2.length : Int)) < 0 by omega)]; simp only [cond_false]
  have h_2 := h; clear h
  unfold lessZ; rw [if_pos (by omega)]; congr 1; omega
/-! ## laws.toAtom (12) -/
noncomputable def c_laws_toAtom : Ctr := ⟨12, [TyAtom], [TyAtom], fun x => toC TyAtom x.1⟩
def A_laws_toAtom : List (List Nat × Ann) := []
def In_laws_toAtom : List (List Nat × Nat) := []
noncomputable def cs_laws_toAtom : List Ctr := []
noncomputable def F_laws_toAtom (n : Nat) (a0 : DAtom) : Option DAtom := run Try.prog A_laws_toAtom In_laws_toAtom (conOf cs_laws_toAtom) Try.f12 (Try.f12.body.getD .skip) (packT [TyAtom]) n (argsV [TyAtom] (a0, ()))
theorem F_laws_toAtom_eq (n : Nat) (a0 : DAtom) : F_laws_toAtom n a0 =
    some a0 := by kernel_rfl
theorem mk_laws_toAtom (hcs : ∀ x ∈ cs_laws_toAtom, CtrOk Try.prog x) (h : ∀ (a0 : DAtom) y, toC TyAtom a0 = some y → ∃ n, F_laws_toAtom n a0 = some y) : CtrOk Try.prog c_laws_toAtom := by
  refine ctr_of_run (c := c_laws_toAtom) (by kernel_rfl : Try.prog.funcs[12]? = some Try.f12) (code := Try.f12.body.getD .skip) (by kernel_rfl) (by kernel_rfl) (by kernel_rfl) (A := A_laws_toAtom) (I := In_laws_toAtom) hcs ?_
  rintro ⟨a0, u⟩ y hy
  exact h a0 y hy

theorem hcs_laws_toAtom : ∀ x ∈ cs_laws_toAtom, CtrOk Try.prog x := conOf_nil
theorem ok_laws_toAtom : CtrOk Try.prog c_laws_toAtom := mk_laws_toAtom hcs_laws_toAtom fun a0 y hy => by
  obtain ⟨hw, hs, rfl⟩ := toC_inv hy
  have hw2 : wfD I64 y.1 ∧ wfD I64 y.2.1 ∧ wfD .str y.2.2.1 ∧ wfD .str y.2.2.2 := hw
  have hs2 : Ty.size I64 y.1 + (Ty.size I64 y.2.1 + (Ty.size .str y.2.2.1 + (Ty.size .str y.2.2.2))) ≤ 1073741824 := hs
  refine ⟨0, ?_⟩
  rw [F_laws_toAtom_eq]
  try rfl
/-! ## laws.toAtomS (85) -/
noncomputable def c_laws_toAtomS : Ctr := ⟨85, [(.list TyAtom)], [(.list TyAtom)], fun x => toC (.list TyAtom) x.1⟩
def A_laws_toAtomS : List (List Nat × Ann) := [([0, 3], [.keep 0 0, .keep 0 3, .keep 0 4, .rows 0 7 TyAtom])]
def In_laws_toAtomS : List (List Nat × Nat) := []
noncomputable def cs_laws_toAtomS : List Ctr := [c_laws_toAtom]
noncomputable def F_laws_toAtomS (n : Nat) (a0 : (List DAtom)) : Option (List DAtom) := run Try.prog A_laws_toAtomS In_laws_toAtomS (conOf cs_laws_toAtomS) Try.f85 (Try.f85.body.getD .skip) (packT [(.list TyAtom)]) n (argsV [(.list TyAtom)] (a0, ()))
noncomputable abbrev L_laws_toAtomS_0_3 (n : Nat) (x1 : (List DAtom)) (x2 : Int) (x3 : (List DAtom)) : Option (List DAtom) := lam Try.prog A_laws_toAtomS In_laws_toAtomS (conOf cs_laws_toAtomS) Try.f85 (Try.f85.body.getD .skip) (packT [(.list TyAtom)]) n [0, 3] [.d (.list TyAtom) x1, .msl 0 7, .d I64 x2, .d (.list TyAtom) x3]
theorem F_laws_toAtomS_eq (n : Nat) (a0 : (List DAtom)) : F_laws_toAtomS n a0 =
    bif decide ((a0.length : Int) = (a0.length : Int)) && decide ((0 : Int) ≤ (a0.length : Int)) && decide ((a0.length : Int) * 48 ≤ room) && true then
      L_laws_toAtomS_0_3 n a0 0 (List.replicate (Int.toNat (a0.length : Int)) (0, 0, ([] : List Int), ([] : List Int)))
    else none := by kernel_rfl
theorem L_laws_toAtomS_0_3_eq (n : Nat) (x1 : (List DAtom)) (x2 : Int) (x3 : (List DAtom)) : L_laws_toAtomS_0_3 (n + 1) x1 x2 x3 =
    bif decide (x2 < (x1.length : Int)) then
      bif inB x2 x1.length then
        Option.bind (toC TyAtom (rd x1 x2 (Ty.dflt TyAtom))) fun (y1 : DAtom) =>
        bif inB x2 x3.length then
          bif inB x2 x3.length && true && true && true && true then
            L_laws_toAtomS_0_3 n x1 (IntKind.wrap .i64 (x2 + 1)) (x3.set (Int.toNat x2) y1)
          else none
        else none
      else none
    else
      some x3 := by kernel_rfl
theorem mk_laws_toAtomS (hcs : ∀ x ∈ cs_laws_toAtomS, CtrOk Try.prog x) (h : ∀ (a0 : (List DAtom)) y, toC (.list TyAtom) a0 = some y → ∃ n, F_laws_toAtomS n a0 = some y) : CtrOk Try.prog c_laws_toAtomS := by
  refine ctr_of_run (c := c_laws_toAtomS) (by kernel_rfl : Try.prog.funcs[85]? = some Try.f85) (code := Try.f85.body.getD .skip) (by kernel_rfl) (by kernel_rfl) (by kernel_rfl) (A := A_laws_toAtomS) (I := In_laws_toAtomS) hcs ?_
  rintro ⟨a0, u⟩ y hy
  exact h a0 y hy

theorem hcs_laws_toAtomS : ∀ x ∈ cs_laws_toAtomS, CtrOk Try.prog x := (conOf_cons ok_laws_toAtom conOf_nil)
theorem ok_laws_toAtomS : CtrOk Try.prog c_laws_toAtomS := mk_laws_toAtomS hcs_laws_toAtomS fun a0 y hy => by
  obtain ⟨n, hn⟩ := toS_ok (t := TyAtom) (f := toC TyAtom) (fun x h h2 => toC_some h h2) (by_ := 48) (by omega) (fun n xs i out => L_laws_toAtomS_0_3_eq n xs i out) hy
  exact ⟨n, (F_laws_toAtomS_eq n a0).trans hn⟩
/-! ## laws.toStringS (54) -/
noncomputable def c_laws_toStringS : Ctr := ⟨54, [(.list .str)], [(.list .str)], fun x => toC (.list .str) x.1⟩
def A_laws_toStringS : List (List Nat × Ann) := [([0, 3], [.keep 0 0, .keep 0 3, .keep 0 4, .rows 0 7 .str])]
def In_laws_toStringS : List (List Nat × Nat) := []
noncomputable def cs_laws_toStringS : List Ctr := []
noncomputable def F_laws_toStringS (n : Nat) (a0 : (List (List Int))) : Option (List (List Int)) := run Try.prog A_laws_toStringS In_laws_toStringS (conOf cs_laws_toStringS) Try.f54 (Try.f54.body.getD .skip) (packT [(.list .str)]) n (argsV [(.list .str)] (a0, ()))
noncomputable abbrev L_laws_toStringS_0_3 (n : Nat) (x1 : (List (List Int))) (x2 : Int) (x3 : (List (List Int))) : Option (List (List Int)) := lam Try.prog A_laws_toStringS In_laws_toStringS (conOf cs_laws_toStringS) Try.f54 (Try.f54.body.getD .skip) (packT [(.list .str)]) n [0, 3] [.d (.list .str) x1, .msl 0 7, .d I64 x2, .d (.list .str) x3]
theorem F_laws_toStringS_eq (n : Nat) (a0 : (List (List Int))) : F_laws_toStringS n a0 =
    bif decide ((a0.length : Int) = (a0.length : Int)) && decide ((0 : Int) ≤ (a0.length : Int)) && decide ((a0.length : Int) * 16 ≤ room) && true then
      L_laws_toStringS_0_3 n a0 0 (List.replicate (Int.toNat (a0.length : Int)) ([] : List Int))
    else none := by kernel_rfl
theorem L_laws_toStringS_0_3_eq (n : Nat) (x1 : (List (List Int))) (x2 : Int) (x3 : (List (List Int))) : L_laws_toStringS_0_3 (n + 1) x1 x2 x3 =
    bif decide (x2 < (x1.length : Int)) then
      bif inB x2 x1.length then
        bif inB x2 x3.length then
          bif inB x2 x3.length && true && true && true && true then
            L_laws_toStringS_0_3 n x1 (IntKind.wrap .i64 (x2 + 1)) (x3.set (Int.toNat x2) (rd x1 x2 (Ty.dflt .str)))
          else none
        else none
      else none
    else
      some x3 := by kernel_rfl
theorem mk_laws_toStringS (hcs : ∀ x ∈ cs_laws_toStringS, CtrOk Try.prog x) (h : ∀ (a0 : (List (List Int))) y, toC (.list .str) a0 = some y → ∃ n, F_laws_toStringS n a0 = some y) : CtrOk Try.prog c_laws_toStringS := by
  refine ctr_of_run (c := c_laws_toStringS) (by kernel_rfl : Try.prog.funcs[54]? = some Try.f54) (code := Try.f54.body.getD .skip) (by kernel_rfl) (by kernel_rfl) (by kernel_rfl) (A := A_laws_toStringS) (I := In_laws_toStringS) hcs ?_
  rintro ⟨a0, u⟩ y hy
  exact h a0 y hy

theorem hcs_laws_toStringS : ∀ x ∈ cs_laws_toStringS, CtrOk Try.prog x := conOf_nil
theorem ok_laws_toStringS : CtrOk Try.prog c_laws_toStringS := mk_laws_toStringS hcs_laws_toStringS fun a0 y hy => by
  obtain ⟨n, hn⟩ := toS_ok (t := .str) (f := fun x => some x) (fun x _ _ => rfl) (by_ := 16) (by omega) (fun n xs i out => L_laws_toStringS_0_3_eq n xs i out) hy
  exact ⟨n, (F_laws_toStringS_eq n a0).trans hn⟩
/-! ## laws.toValue (139) -/
noncomputable def c_laws_toValue : Ctr := ⟨139, [TyValue], [TyValue], fun x => toC TyValue x.1⟩
def A_laws_toValue : List (List Nat × Ann) := []
def In_laws_toValue : List (List Nat × Nat) := []
noncomputable def cs_laws_toValue : List Ctr := [c_laws_toAtom, c_laws_toAtomS, c_laws_toStringS]
noncomputable def F_laws_toValue (n : Nat) (a0 : DValue) : Option DValue := run Try.prog A_laws_toValue In_laws_toValue (conOf cs_laws_toValue) Try.f139 (Try.f139.body.getD .skip) (packT [TyValue]) n (argsV [TyValue] (a0, ()))
theorem F_laws_toValue_eq (n : Nat) (a0 : DValue) : F_laws_toValue n a0 =
    Option.bind (toC TyAtom a0.2.1) fun (y1 : DAtom) =>
    Option.bind (toC (.list TyAtom) a0.2.2.1) fun (y2 : (List DAtom)) =>
    Option.bind (toC (.list .str) a0.2.2.2) fun (y3 : (List (List Int))) =>
    some (a0.1, y1, y2, y3) := by kernel_rfl
theorem mk_laws_toValue (hcs : ∀ x ∈ cs_laws_toValue, CtrOk Try.prog x) (h : ∀ (a0 : DValue) y, toC TyValue a0 = some y → ∃ n, F_laws_toValue n a0 = some y) : CtrOk Try.prog c_laws_toValue := by
  refine ctr_of_run (c := c_laws_toValue) (by kernel_rfl : Try.prog.funcs[139]? = some Try.f139) (code := Try.f139.body.getD .skip) (by kernel_rfl) (by kernel_rfl) (by kernel_rfl) (A := A_laws_toValue) (I := In_laws_toValue) hcs ?_
  rintro ⟨a0, u⟩ y hy
  exact h a0 y hy

theorem hcs_laws_toValue : ∀ x ∈ cs_laws_toValue, CtrOk Try.prog x := (conOf_cons ok_laws_toAtom (conOf_cons ok_laws_toAtomS (conOf_cons ok_laws_toStringS conOf_nil)))
theorem ok_laws_toValue : CtrOk Try.prog c_laws_toValue := mk_laws_toValue hcs_laws_toValue fun a0 y hy => by
  obtain ⟨hw, hs, rfl⟩ := toC_inv hy
  have hw2 : wfD I64 y.1 ∧ wfD TyAtom y.2.1 ∧ wfD (.list TyAtom) y.2.2.1 ∧ wfD (.list .str) y.2.2.2 := hw
  have hs2 : Ty.size I64 y.1 + (Ty.size TyAtom y.2.1 + (Ty.size (.list TyAtom) y.2.2.1 + (Ty.size (.list .str) y.2.2.2))) ≤ 1073741824 := hs
  refine ⟨0, ?_⟩
  rw [F_laws_toValue_eq]
  try (rw [toC_some hw2.2.1 (by omega)]; simp only [Option.bind_some])
  try (rw [toC_some hw2.2.2.1 (by omega)]; simp only [Option.bind_some])
  try (rw [toC_some hw2.2.2.2 (by omega)]; simp only [Option.bind_some])
  try rfl
/-! ## laws.toValueS (86) -/
noncomputable def c_laws_toValueS : Ctr := ⟨86, [(.list TyValue)], [(.list TyValue)], fun x => toC (.list TyValue) x.1⟩
def A_laws_toValueS : List (List Nat × Ann) := [([0, 3], [.keep 0 0, .keep 0 3, .keep 0 4, .rows 0 7 TyValue])]
def In_laws_toValueS : List (List Nat × Nat) := []
noncomputable def cs_laws_toValueS : List Ctr := [c_laws_toValue]
noncomputable def F_laws_toValueS (n : Nat) (a0 : (List DValue)) : Option (List DValue) := run Try.prog A_laws_toValueS In_laws_toValueS (conOf cs_laws_toValueS) Try.f86 (Try.f86.body.getD .skip) (packT [(.list TyValue)]) n (argsV [(.list TyValue)] (a0, ()))
noncomputable abbrev L_laws_toValueS_0_3 (n : Nat) (x1 : (List DValue)) (x2 : Int) (x3 : (List DValue)) : Option (List DValue) := lam Try.prog A_laws_toValueS In_laws_toValueS (conOf cs_laws_toValueS) Try.f86 (Try.f86.body.getD .skip) (packT [(.list TyValue)]) n [0, 3] [.d (.list TyValue) x1, .msl 0 7, .d I64 x2, .d (.list TyValue) x3]
theorem F_laws_toValueS_eq (n : Nat) (a0 : (List DValue)) : F_laws_toValueS n a0 =
    bif decide ((a0.length : Int) = (a0.length : Int)) && decide ((0 : Int) ≤ (a0.length : Int)) && decide ((a0.length : Int) * 104 ≤ room) && true then
      L_laws_toValueS_0_3 n a0 0 (List.replicate (Int.toNat (a0.length : Int)) (0, (0, 0, ([] : List Int), ([] : List Int)), [], []))
    else none := by kernel_rfl
theorem L_laws_toValueS_0_3_eq (n : Nat) (x1 : (List DValue)) (x2 : Int) (x3 : (List DValue)) : L_laws_toValueS_0_3 (n + 1) x1 x2 x3 =
    bif decide (x2 < (x1.length : Int)) then
      bif inB x2 x1.length then
        Option.bind (toC TyValue (rd x1 x2 (Ty.dflt TyValue))) fun (y1 : DValue) =>
        bif inB x2 x3.length then
          bif inB x2 x3.length && true && true && true && true then
            L_laws_toValueS_0_3 n x1 (IntKind.wrap .i64 (x2 + 1)) (x3.set (Int.toNat x2) y1)
          else none
        else none
      else none
    else
      some x3 := by kernel_rfl
theorem mk_laws_toValueS (hcs : ∀ x ∈ cs_laws_toValueS, CtrOk Try.prog x) (h : ∀ (a0 : (List DValue)) y, toC (.list TyValue) a0 = some y → ∃ n, F_laws_toValueS n a0 = some y) : CtrOk Try.prog c_laws_toValueS := by
  refine ctr_of_run (c := c_laws_toValueS) (by kernel_rfl : Try.prog.funcs[86]? = some Try.f86) (code := Try.f86.body.getD .skip) (by kernel_rfl) (by kernel_rfl) (by kernel_rfl) (A := A_laws_toValueS) (I := In_laws_toValueS) hcs ?_
  rintro ⟨a0, u⟩ y hy
  exact h a0 y hy

theorem hcs_laws_toValueS : ∀ x ∈ cs_laws_toValueS, CtrOk Try.prog x := (conOf_cons ok_laws_toValue conOf_nil)
theorem ok_laws_toValueS : CtrOk Try.prog c_laws_toValueS := mk_laws_toValueS hcs_laws_toValueS fun a0 y hy => by
  obtain ⟨n, hn⟩ := toS_ok (t := TyValue) (f := toC TyValue) (fun x h h2 => toC_some h h2) (by_ := 104) (by omega) (fun n xs i out => L_laws_toValueS_0_3_eq n xs i out) hy
  exact ⟨n, (F_laws_toValueS_eq n a0).trans hn⟩
/-! ## laws.toThing (34) -/
noncomputable def c_laws_toThing : Ctr := ⟨34, [TyThing], [TyThing], fun x => toC TyThing x.1⟩
def A_laws_toThing : List (List Nat × Ann) := []
def In_laws_toThing : List (List Nat × Nat) := []
noncomputable def cs_laws_toThing : List Ctr := [c_laws_toAtom, c_laws_toAtomS, c_laws_toStringS, c_laws_toValueS]
noncomputable def F_laws_toThing (n : Nat) (a0 : DThing) : Option DThing := run Try.prog A_laws_toThing In_laws_toThing (conOf cs_laws_toThing) Try.f34 (Try.f34.body.getD .skip) (packT [TyThing]) n (argsV [TyThing] (a0, ()))
theorem F_laws_toThing_eq (n : Nat) (a0 : DThing) : F_laws_toThing n a0 =
    Option.bind (toC TyAtom a0.1) fun (y1 : DAtom) =>
    Option.bind (toC (.list TyAtom) a0.2.1) fun (y2 : (List DAtom)) =>
    Option.bind (toC (.list .str) a0.2.2.1) fun (y3 : (List (List Int))) =>
    Option.bind (toC (.list TyValue) a0.2.2.2) fun (y4 : (List DValue)) =>
    some (y1, y2, y3, y4) := by kernel_rfl
theorem mk_laws_toThing (hcs : ∀ x ∈ cs_laws_toThing, CtrOk Try.prog x) (h : ∀ (a0 : DThing) y, toC TyThing a0 = some y → ∃ n, F_laws_toThing n a0 = some y) : CtrOk Try.prog c_laws_toThing := by
  refine ctr_of_run (c := c_laws_toThing) (by kernel_rfl : Try.prog.funcs[34]? = some Try.f34) (code := Try.f34.body.getD .skip) (by kernel_rfl) (by kernel_rfl) (by kernel_rfl) (A := A_laws_toThing) (I := In_laws_toThing) hcs ?_
  rintro ⟨a0, u⟩ y hy
  exact h a0 y hy

theorem hcs_laws_toThing : ∀ x ∈ cs_laws_toThing, CtrOk Try.prog x := (conOf_cons ok_laws_toAtom (conOf_cons ok_laws_toAtomS (conOf_cons ok_laws_toStringS (conOf_cons ok_laws_toValueS conOf_nil))))
theorem ok_laws_toThing : CtrOk Try.prog c_laws_toThing := mk_laws_toThing hcs_laws_toThing fun a0 y hy => by
  obtain ⟨hw, hs, rfl⟩ := toC_inv hy
  have hw2 : wfD TyAtom y.1 ∧ wfD (.list TyAtom) y.2.1 ∧ wfD (.list .str) y.2.2.1 ∧ wfD (.list TyValue) y.2.2.2 := hw
  have hs2 : Ty.size TyAtom y.1 + (Ty.size (.list TyAtom) y.2.1 + (Ty.size (.list .str) y.2.2.1 + (Ty.size (.list TyValue) y.2.2.2))) ≤ 1073741824 := hs
  refine ⟨0, ?_⟩
  rw [F_laws_toThing_eq]
  try (rw [toC_some hw2.1 (by omega)]; simp only [Option.bind_some])
  try (rw [toC_some hw2.2.1 (by omega)]; simp only [Option.bind_some])
  try (rw [toC_some hw2.2.2.1 (by omega)]; simp only [Option.bind_some])
  try (rw [toC_some hw2.2.2.2 (by omega)]; simp only [Option.bind_some])
  try rfl
/-! ## laws.toThingS (10) -/
noncomputable def c_laws_toThingS : Ctr := ⟨10, [(.list TyThing)], [(.list TyThing)], fun x => toC (.list TyThing) x.1⟩
def A_laws_toThingS : List (List Nat × Ann) := [([0, 3], [.keep 0 0, .keep 0 3, .keep 0 4, .rows 0 7 TyThing])]
def In_laws_toThingS : List (List Nat × Nat) := []
noncomputable def cs_laws_toThingS : List Ctr := [c_laws_toThing]
noncomputable def F_laws_toThingS (n : Nat) (a0 : (List DThing)) : Option (List DThing) := run Try.prog A_laws_toThingS In_laws_toThingS (conOf cs_laws_toThingS) Try.f10 (Try.f10.body.getD .skip) (packT [(.list TyThing)]) n (argsV [(.list TyThing)] (a0, ()))
noncomputable abbrev L_laws_toThingS_0_3 (n : Nat) (x1 : (List DThing)) (x2 : Int) (x3 : (List DThing)) : Option (List DThing) := lam Try.prog A_laws_toThingS In_laws_toThingS (conOf cs_laws_toThingS) Try.f10 (Try.f10.body.getD .skip) (packT [(.list TyThing)]) n [0, 3] [.d (.list TyThing) x1, .msl 0 7, .d I64 x2, .d (.list TyThing) x3]
theorem F_laws_toThingS_eq (n : Nat) (a0 : (List DThing)) : F_laws_toThingS n a0 =
    bif decide ((a0.length : Int) = (a0.length : Int)) && decide ((0 : Int) ≤ (a0.length : Int)) && decide ((a0.length : Int) * 120 ≤ room) && true then
      L_laws_toThingS_0_3 n a0 0 (List.replicate (Int.toNat (a0.length : Int)) ((0, 0, ([] : List Int), ([] : List Int)), [], [], []))
    else none := by kernel_rfl
theorem L_laws_toThingS_0_3_eq (n : Nat) (x1 : (List DThing)) (x2 : Int) (x3 : (List DThing)) : L_laws_toThingS_0_3 (n + 1) x1 x2 x3 =
    bif decide (x2 < (x1.length : Int)) then
      bif inB x2 x1.length then
        Option.bind (toC TyThing (((rd x1 x2 (Ty.dflt TyThing)).1), ((rd x1 x2 (Ty.dflt TyThing)).2))) fun (y1 : DThing) =>
        bif inB x2 x3.length then
          bif inB x2 x3.length && true && true && true && true then
            L_laws_toThingS_0_3 n x1 (IntKind.wrap .i64 (x2 + 1)) (x3.set (Int.toNat x2) y1)
          else none
        else none
      else none
    else
      some x3 := by kernel_rfl
theorem mk_laws_toThingS (hcs : ∀ x ∈ cs_laws_toThingS, CtrOk Try.prog x) (h : ∀ (a0 : (List DThing)) y, toC (.list TyThing) a0 = some y → ∃ n, F_laws_toThingS n a0 = some y) : CtrOk Try.prog c_laws_toThingS := by
  refine ctr_of_run (c := c_laws_toThingS) (by kernel_rfl : Try.prog.funcs[10]? = some Try.f10) (code := Try.f10.body.getD .skip) (by kernel_rfl) (by kernel_rfl) (by kernel_rfl) (A := A_laws_toThingS) (I := In_laws_toThingS) hcs ?_
  rintro ⟨a0, u⟩ y hy
  exact h a0 y hy

theorem hcs_laws_toThingS : ∀ x ∈ cs_laws_toThingS, CtrOk Try.prog x := (conOf_cons ok_laws_toThing conOf_nil)
theorem ok_laws_toThingS : CtrOk Try.prog c_laws_toThingS := mk_laws_toThingS hcs_laws_toThingS fun a0 y hy => by
  obtain ⟨n, hn⟩ := toS_ok (t := TyThing) (f := toC TyThing) (fun x h h2 => toC_some h h2) (by_ := 120) (by omega) (fun n xs i out => L_laws_toThingS_0_3_eq n xs i out) hy
  exact ⟨n, (F_laws_toThingS_eq n a0).trans hn⟩
/-! ## laws.toHead (11) -/
noncomputable def c_laws_toHead : Ctr := ⟨11, [TyHead], [TyHead], fun x => toC TyHead x.1⟩
def A_laws_toHead : List (List Nat × Ann) := []
def In_laws_toHead : List (List Nat × Nat) := []
noncomputable def cs_laws_toHead : List Ctr := [c_laws_toAtom]
noncomputable def F_laws_toHead (n : Nat) (a0 : DHead) : Option DHead := run Try.prog A_laws_toHead In_laws_toHead (conOf cs_laws_toHead) Try.f11 (Try.f11.body.getD .skip) (packT [TyHead]) n (argsV [TyHead] (a0, ()))
theorem F_laws_toHead_eq (n : Nat) (a0 : DHead) : F_laws_toHead n a0 =
    Option.bind (toC TyAtom a0.2.1) fun (y1 : DAtom) =>
    some (a0.1, y1, a0.2.2) := by kernel_rfl
theorem mk_laws_toHead (hcs : ∀ x ∈ cs_laws_toHead, CtrOk Try.prog x) (h : ∀ (a0 : DHead) y, toC TyHead a0 = some y → ∃ n, F_laws_toHead n a0 = some y) : CtrOk Try.prog c_laws_toHead := by
  refine ctr_of_run (c := c_laws_toHead) (by kernel_rfl : Try.prog.funcs[11]? = some Try.f11) (code := Try.f11.body.getD .skip) (by kernel_rfl) (by kernel_rfl) (by kernel_rfl) (A := A_laws_toHead) (I := In_laws_toHead) hcs ?_
  rintro ⟨a0, u⟩ y hy
  exact h a0 y hy

theorem hcs_laws_toHead : ∀ x ∈ cs_laws_toHead, CtrOk Try.prog x := (conOf_cons ok_laws_toAtom conOf_nil)
theorem ok_laws_toHead : CtrOk Try.prog c_laws_toHead := mk_laws_toHead hcs_laws_toHead fun a0 y hy => by
  obtain ⟨hw, hs, rfl⟩ := toC_inv hy
  have hw2 : wfD I64 y.1 ∧ wfD TyAtom y.2.1 ∧ wfD .str y.2.2 := hw
  have hs2 : Ty.size I64 y.1 + (Ty.size TyAtom y.2.1 + (Ty.size .str y.2.2)) ≤ 1073741824 := hs
  refine ⟨0, ?_⟩
  rw [F_laws_toHead_eq]
  try (rw [toC_some hw2.2.1 (by omega)]; simp only [Option.bind_some])
  try rfl
/-! ## laws.eqAtom (94) -/
noncomputable def c_laws_eqAtom : Ctr := ⟨94, [TyAtom, TyAtom], [.bool], fun x => eqC TyAtom x.1 x.2.1⟩
def A_laws_eqAtom : List (List Nat × Ann) := []
def In_laws_eqAtom : List (List Nat × Nat) := []
noncomputable def cs_laws_eqAtom : List Ctr := []
noncomputable def F_laws_eqAtom (n : Nat) (a0 : DAtom) (a1 : DAtom) : Option Bool := run Try.prog A_laws_eqAtom In_laws_eqAtom (conOf cs_laws_eqAtom) Try.f94 (Try.f94.body.getD .skip) (packT [.bool]) n (argsV [TyAtom, TyAtom] (a0, a1, ()))
theorem F_laws_eqAtom_eq (n : Nat) (a0 : DAtom) (a1 : DAtom) : F_laws_eqAtom n a0 a1 =
    bif !decide (a0.1 = a1.1) then
      some false
    else
      bif !decide (a0.2.1 = a1.2.1) then
        some false
      else
        bif !decide (a0.2.2.1 = a1.2.2.1) then
          some false
        else
          bif !decide (a0.2.2.2 = a1.2.2.2) then
            some false
          else
            some true := by kernel_rfl
theorem mk_laws_eqAtom (hcs : ∀ x ∈ cs_laws_eqAtom, CtrOk Try.prog x) (h : ∀ (a0 : DAtom) (a1 : DAtom) y, eqC TyAtom a0 a1 = some y → ∃ n, F_laws_eqAtom n a0 a1 = some y) : CtrOk Try.prog c_laws_eqAtom := by
  refine ctr_of_run (c := c_laws_eqAtom) (by kernel_rfl : Try.prog.funcs[94]? = some Try.f94) (code := Try.f94.body.getD .skip) (by kernel_rfl) (by kernel_rfl) (by kernel_rfl) (A := A_laws_eqAtom) (I := In_laws_eqAtom) hcs ?_
  rintro ⟨a0, a1, u⟩ y hy
  exact h a0 a1 y hy

theorem hcs_laws_eqAtom : ∀ x ∈ cs_laws_eqAtom, CtrOk Try.prog x := conOf_nil
theorem ok_laws_eqAtom : CtrOk Try.prog c_laws_eqAtom := mk_laws_eqAtom hcs_laws_eqAtom fun a0 a1 y hy => by
  obtain ⟨rfl, hw, rfl⟩ := eqC_inv hy
  have hw2 : wfD I64 a0.1 ∧ wfD I64 a0.2.1 ∧ wfD .str a0.2.2.1 ∧ wfD .str a0.2.2.2 := hw
  refine ⟨0, ?_⟩
  rw [F_laws_eqAtom_eq]
  simp []
/-! ## laws.eqAtomS (95) -/
noncomputable def c_laws_eqAtomS : Ctr := ⟨95, [(.list TyAtom), (.list TyAtom)], [.bool], fun x => eqC (.list TyAtom) x.1 x.2.1⟩
def A_laws_eqAtomS : List (List Nat × Ann) := [([0, 4], [.keep 0 0, .keep 0 1, .keep 0 5])]
def In_laws_eqAtomS : List (List Nat × Nat) := []
noncomputable def cs_laws_eqAtomS : List Ctr := [c_laws_eqAtom]
noncomputable def F_laws_eqAtomS (n : Nat) (a0 : (List DAtom)) (a1 : (List DAtom)) : Option Bool := run Try.prog A_laws_eqAtomS In_laws_eqAtomS (conOf cs_laws_eqAtomS) Try.f95 (Try.f95.body.getD .skip) (packT [.bool]) n (argsV [(.list TyAtom), (.list TyAtom)] (a0, a1, ()))
noncomputable abbrev L_laws_eqAtomS_0_4 (n : Nat) (x1 : (List DAtom)) (x2 : (List DAtom)) (x3 : Int) : Option Bool := lam Try.prog A_laws_eqAtomS In_laws_eqAtomS (conOf cs_laws_eqAtomS) Try.f95 (Try.f95.body.getD .skip) (packT [.bool]) n [0, 4] [.d (.list TyAtom) x1, .d (.list TyAtom) x2, .d I64 x3]
theorem F_laws_eqAtomS_eq (n : Nat) (a0 : (List DAtom)) (a1 : (List DAtom)) : F_laws_eqAtomS n a0 a1 =
    bif !decide ((a0.length : Int) = (a1.length : Int)) then
      some false
    else
      L_laws_eqAtomS_0_4 n a0 a1 0 := by kernel_rfl
theorem L_laws_eqAtomS_0_4_eq (n : Nat) (x1 : (List DAtom)) (x2 : (List DAtom)) (x3 : Int) : L_laws_eqAtomS_0_4 (n + 1) x1 x2 x3 =
    bif decide (x3 < (x1.length : Int)) then
      bif inB x3 x1.length then
        bif inB x3 x2.length then
          Option.bind (eqC TyAtom (rd x1 x3 (Ty.dflt TyAtom)) (rd x2 x3 (Ty.dflt TyAtom))) fun (y1 : Bool) =>
          bif !(y1) then
            some false
          else
            L_laws_eqAtomS_0_4 n x1 x2 (IntKind.wrap .i64 (x3 + 1))
        else none
      else none
    else
      some true := by kernel_rfl
theorem mk_laws_eqAtomS (hcs : ∀ x ∈ cs_laws_eqAtomS, CtrOk Try.prog x) (h : ∀ (a0 : (List DAtom)) (a1 : (List DAtom)) y, eqC (.list TyAtom) a0 a1 = some y → ∃ n, F_laws_eqAtomS n a0 a1 = some y) : CtrOk Try.prog c_laws_eqAtomS := by
  refine ctr_of_run (c := c_laws_eqAtomS) (by kernel_rfl : Try.prog.funcs[95]? = some Try.f95) (code := Try.f95.body.getD .skip) (by kernel_rfl) (by kernel_rfl) (by kernel_rfl) (A := A_laws_eqAtomS) (I := In_laws_eqAtomS) hcs ?_
  rintro ⟨a0, a1, u⟩ y hy
  exact h a0 a1 y hy

theorem hcs_laws_eqAtomS : ∀ x ∈ cs_laws_eqAtomS, CtrOk Try.prog x := (conOf_cons ok_laws_eqAtom conOf_nil)
theorem ok_laws_eqAtomS : CtrOk Try.prog c_laws_eqAtomS := mk_laws_eqAtomS hcs_laws_eqAtomS fun a0 a1 y hy => by
  obtain ⟨n, hn⟩ := eqS_ok (t := TyAtom) (body := fun x y K => Option.bind (eqC TyAtom x y) fun b => bif !b then some false else K ()) (fun x K h => by simp only [eqC_some h, Option.bind_some, Bool.not_true, cond_false]) (fun n xs ys i => L_laws_eqAtomS_0_4_eq n xs ys i) hy
  exact ⟨n, (F_laws_eqAtomS_eq n a0 a1).trans hn⟩
/-! ## laws.eqStringS (25) -/
noncomputable def c_laws_eqStringS : Ctr := ⟨25, [(.list .str), (.list .str)], [.bool], fun x => eqC (.list .str) x.1 x.2.1⟩
def A_laws_eqStringS : List (List Nat × Ann) := [([0, 4], [.keep 0 0, .keep 0 1, .keep 0 5])]
def In_laws_eqStringS : List (List Nat × Nat) := []
noncomputable def cs_laws_eqStringS : List Ctr := []
noncomputable def F_laws_eqStringS (n : Nat) (a0 : (List (List Int))) (a1 : (List (List Int))) : Option Bool := run Try.prog A_laws_eqStringS In_laws_eqStringS (conOf cs_laws_eqStringS) Try.f25 (Try.f25.body.getD .skip) (packT [.bool]) n (argsV [(.list .str), (.list .str)] (a0, a1, ()))
noncomputable abbrev L_laws_eqStringS_0_4 (n : Nat) (x1 : (List (List Int))) (x2 : (List (List Int))) (x3 : Int) : Option Bool := lam Try.prog A_laws_eqStringS In_laws_eqStringS (conOf cs_laws_eqStringS) Try.f25 (Try.f25.body.getD .skip) (packT [.bool]) n [0, 4] [.d (.list .str) x1, .d (.list .str) x2, .d I64 x3]
theorem F_laws_eqStringS_eq (n : Nat) (a0 : (List (List Int))) (a1 : (List (List Int))) : F_laws_eqStringS n a0 a1 =
    bif !decide ((a0.length : Int) = (a1.length : Int)) then
      some false
    else
      L_laws_eqStringS_0_4 n a0 a1 0 := by kernel_rfl
theorem L_laws_eqStringS_0_4_eq (n : Nat) (x1 : (List (List Int))) (x2 : (List (List Int))) (x3 : Int) : L_laws_eqStringS_0_4 (n + 1) x1 x2 x3 =
    bif decide (x3 < (x1.length : Int)) then
      bif inB x3 x1.length then
        bif inB x3 x2.length then
          bif !decide (rd x1 x3 (Ty.dflt .str) = rd x2 x3 (Ty.dflt .str)) then
            some false
          else
            L_laws_eqStringS_0_4 n x1 x2 (IntKind.wrap .i64 (x3 + 1))
        else none
      else none
    else
      some true := by kernel_rfl
theorem mk_laws_eqStringS (hcs : ∀ x ∈ cs_laws_eqStringS, CtrOk Try.prog x) (h : ∀ (a0 : (List (List Int))) (a1 : (List (List Int))) y, eqC (.list .str) a0 a1 = some y → ∃ n, F_laws_eqStringS n a0 a1 = some y) : CtrOk Try.prog c_laws_eqStringS := by
  refine ctr_of_run (c := c_laws_eqStringS) (by kernel_rfl : Try.prog.funcs[25]? = some Try.f25) (code := Try.f25.body.getD .skip) (by kernel_rfl) (by kernel_rfl) (by kernel_rfl) (A := A_laws_eqStringS) (I := In_laws_eqStringS) hcs ?_
  rintro ⟨a0, a1, u⟩ y hy
  exact h a0 a1 y hy

theorem hcs_laws_eqStringS : ∀ x ∈ cs_laws_eqStringS, CtrOk Try.prog x := conOf_nil
theorem ok_laws_eqStringS : CtrOk Try.prog c_laws_eqStringS := mk_laws_eqStringS hcs_laws_eqStringS fun a0 a1 y hy => by
  obtain ⟨n, hn⟩ := eqS_ok (t := .str) (body := fun x y K => bif !decide (x = y) then some false else K ()) (fun x K h => by simp) (fun n xs ys i => L_laws_eqStringS_0_4_eq n xs ys i) hy
  exact ⟨n, (F_laws_eqStringS_eq n a0 a1).trans hn⟩
/-! ## laws.eqValue (153) -/
noncomputable def c_laws_eqValue : Ctr := ⟨153, [TyValue, TyValue], [.bool], fun x => eqC TyValue x.1 x.2.1⟩
def A_laws_eqValue : List (List Nat × Ann) := []
def In_laws_eqValue : List (List Nat × Nat) := []
noncomputable def cs_laws_eqValue : List Ctr := [c_laws_eqAtom, c_laws_eqAtomS, c_laws_eqStringS]
noncomputable def F_laws_eqValue (n : Nat) (a0 : DValue) (a1 : DValue) : Option Bool := run Try.prog A_laws_eqValue In_laws_eqValue (conOf cs_laws_eqValue) Try.f153 (Try.f153.body.getD .skip) (packT [.bool]) n (argsV [TyValue, TyValue] (a0, a1, ()))
theorem F_laws_eqValue_eq (n : Nat) (a0 : DValue) (a1 : DValue) : F_laws_eqValue n a0 a1 =
    bif !decide (a0.1 = a1.1) then
      some false
    else
      Option.bind (eqC TyAtom a0.2.1 a1.2.1) fun (y1 : Bool) =>
      bif !(y1) then
        some false
      else
        Option.bind (eqC (.list TyAtom) a0.2.2.1 a1.2.2.1) fun (y2 : Bool) =>
        bif !(y2) then
          some false
        else
          Option.bind (eqC (.list .str) a0.2.2.2 a1.2.2.2) fun (y3 : Bool) =>
          bif !(y3) then
            some false
          else
            some true := by kernel_rfl
theorem mk_laws_eqValue (hcs : ∀ x ∈ cs_laws_eqValue, CtrOk Try.prog x) (h : ∀ (a0 : DValue) (a1 : DValue) y, eqC TyValue a0 a1 = some y → ∃ n, F_laws_eqValue n a0 a1 = some y) : CtrOk Try.prog c_laws_eqValue := by
  refine ctr_of_run (c := c_laws_eqValue) (by kernel_rfl : Try.prog.funcs[153]? = some Try.f153) (code := Try.f153.body.getD .skip) (by kernel_rfl) (by kernel_rfl) (by kernel_rfl) (A := A_laws_eqValue) (I := In_laws_eqValue) hcs ?_
  rintro ⟨a0, a1, u⟩ y hy
  exact h a0 a1 y hy

theorem hcs_laws_eqValue : ∀ x ∈ cs_laws_eqValue, CtrOk Try.prog x := (conOf_cons ok_laws_eqAtom (conOf_cons ok_laws_eqAtomS (conOf_cons ok_laws_eqStringS conOf_nil)))
theorem ok_laws_eqValue : CtrOk Try.prog c_laws_eqValue := mk_laws_eqValue hcs_laws_eqValue fun a0 a1 y hy => by
  obtain ⟨rfl, hw, rfl⟩ := eqC_inv hy
  have hw2 : wfD I64 a0.1 ∧ wfD TyAtom a0.2.1 ∧ wfD (.list TyAtom) a0.2.2.1 ∧ wfD (.list .str) a0.2.2.2 := hw
  refine ⟨0, ?_⟩
  rw [F_laws_eqValue_eq]
  simp [eqC_some hw2.2.1, eqC_some hw2.2.2.1, eqC_some hw2.2.2.2]
/-! ## laws.eqValueS (96) -/
noncomputable def c_laws_eqValueS : Ctr := ⟨96, [(.list TyValue), (.list TyValue)], [.bool], fun x => eqC (.list TyValue) x.1 x.2.1⟩
def A_laws_eqValueS : List (List Nat × Ann) := [([0, 4], [.keep 0 0, .keep 0 1, .keep 0 5])]
def In_laws_eqValueS : List (List Nat × Nat) := []
noncomputable def cs_laws_eqValueS : List Ctr := [c_laws_eqValue]
noncomputable def F_laws_eqValueS (n : Nat) (a0 : (List DValue)) (a1 : (List DValue)) : Option Bool := run Try.prog A_laws_eqValueS In_laws_eqValueS (conOf cs_laws_eqValueS) Try.f96 (Try.f96.body.getD .skip) (packT [.bool]) n (argsV [(.list TyValue), (.list TyValue)] (a0, a1, ()))
noncomputable abbrev L_laws_eqValueS_0_4 (n : Nat) (x1 : (List DValue)) (x2 : (List DValue)) (x3 : Int) : Option Bool := lam Try.prog A_laws_eqValueS In_laws_eqValueS (conOf cs_laws_eqValueS) Try.f96 (Try.f96.body.getD .skip) (packT [.bool]) n [0, 4] [.d (.list TyValue) x1, .d (.list TyValue) x2, .d I64 x3]
theorem F_laws_eqValueS_eq (n : Nat) (a0 : (List DValue)) (a1 : (List DValue)) : F_laws_eqValueS n a0 a1 =
    bif !decide ((a0.length : Int) = (a1.length : Int)) then
      some false
    else
      L_laws_eqValueS_0_4 n a0 a1 0 := by kernel_rfl
theorem L_laws_eqValueS_0_4_eq (n : Nat) (x1 : (List DValue)) (x2 : (List DValue)) (x3 : Int) : L_laws_eqValueS_0_4 (n + 1) x1 x2 x3 =
    bif decide (x3 < (x1.length : Int)) then
      bif inB x3 x1.length then
        bif inB x3 x2.length then
          Option.bind (eqC TyValue (rd x1 x3 (Ty.dflt TyValue)) (rd x2 x3 (Ty.dflt TyValue))) fun (y1 : Bool) =>
          bif !(y1) then
            some false
          else
            L_laws_eqValueS_0_4 n x1 x2 (IntKind.wrap .i64 (x3 + 1))
        else none
      else none
    else
      some true := by kernel_rfl
theorem mk_laws_eqValueS (hcs : ∀ x ∈ cs_laws_eqValueS, CtrOk Try.prog x) (h : ∀ (a0 : (List DValue)) (a1 : (List DValue)) y, eqC (.list TyValue) a0 a1 = some y → ∃ n, F_laws_eqValueS n a0 a1 = some y) : CtrOk Try.prog c_laws_eqValueS := by
  refine ctr_of_run (c := c_laws_eqValueS) (by kernel_rfl : Try.prog.funcs[96]? = some Try.f96) (code := Try.f96.body.getD .skip) (by kernel_rfl) (by kernel_rfl) (by kernel_rfl) (A := A_laws_eqValueS) (I := In_laws_eqValueS) hcs ?_
  rintro ⟨a0, a1, u⟩ y hy
  exact h a0 a1 y hy

theorem hcs_laws_eqValueS : ∀ x ∈ cs_laws_eqValueS, CtrOk Try.prog x := (conOf_cons ok_laws_eqValue conOf_nil)
theorem ok_laws_eqValueS : CtrOk Try.prog c_laws_eqValueS := mk_laws_eqValueS hcs_laws_eqValueS fun a0 a1 y hy => by
  obtain ⟨n, hn⟩ := eqS_ok (t := TyValue) (body := fun x y K => Option.bind (eqC TyValue x y) fun b => bif !b then some false else K ()) (fun x K h => by simp only [eqC_some h, Option.bind_some, Bool.not_true, cond_false]) (fun n xs ys i => L_laws_eqValueS_0_4_eq n xs ys i) hy
  exact ⟨n, (F_laws_eqValueS_eq n a0 a1).trans hn⟩
/-! ## laws.eqThing (39) -/
noncomputable def c_laws_eqThing : Ctr := ⟨39, [TyThing, TyThing], [.bool], fun x => eqC TyThing x.1 x.2.1⟩
def A_laws_eqThing : List (List Nat × Ann) := []
def In_laws_eqThing : List (List Nat × Nat) := []
noncomputable def cs_laws_eqThing : List Ctr := [c_laws_eqAtom, c_laws_eqAtomS, c_laws_eqStringS, c_laws_eqValueS]
noncomputable def F_laws_eqThing (n : Nat) (a0 : DThing) (a1 : DThing) : Option Bool := run Try.prog A_laws_eqThing In_laws_eqThing (conOf cs_laws_eqThing) Try.f39 (Try.f39.body.getD .skip) (packT [.bool]) n (argsV [TyThing, TyThing] (a0, a1, ()))
theorem F_laws_eqThing_eq (n : Nat) (a0 : DThing) (a1 : DThing) : F_laws_eqThing n a0 a1 =
    Option.bind (eqC TyAtom a0.1 a1.1) fun (y1 : Bool) =>
    bif !(y1) then
      some false
    else
      Option.bind (eqC (.list TyAtom) a0.2.1 a1.2.1) fun (y2 : Bool) =>
      bif !(y2) then
        some false
      else
        Option.bind (eqC (.list .str) a0.2.2.1 a1.2.2.1) fun (y3 : Bool) =>
        bif !(y3) then
          some false
        else
          Option.bind (eqC (.list TyValue) a0.2.2.2 a1.2.2.2) fun (y4 : Bool) =>
          bif !(y4) then
            some false
          else
            some true := by kernel_rfl
theorem mk_laws_eqThing (hcs : ∀ x ∈ cs_laws_eqThing, CtrOk Try.prog x) (h : ∀ (a0 : DThing) (a1 : DThing) y, eqC TyThing a0 a1 = some y → ∃ n, F_laws_eqThing n a0 a1 = some y) : CtrOk Try.prog c_laws_eqThing := by
  refine ctr_of_run (c := c_laws_eqThing) (by kernel_rfl : Try.prog.funcs[39]? = some Try.f39) (code := Try.f39.body.getD .skip) (by kernel_rfl) (by kernel_rfl) (by kernel_rfl) (A := A_laws_eqThing) (I := In_laws_eqThing) hcs ?_
  rintro ⟨a0, a1, u⟩ y hy
  exact h a0 a1 y hy

theorem hcs_laws_eqThing : ∀ x ∈ cs_laws_eqThing, CtrOk Try.prog x := (conOf_cons ok_laws_eqAtom (conOf_cons ok_laws_eqAtomS (conOf_cons ok_laws_eqStringS (conOf_cons ok_laws_eqValueS conOf_nil))))
theorem ok_laws_eqThing : CtrOk Try.prog c_laws_eqThing := mk_laws_eqThing hcs_laws_eqThing fun a0 a1 y hy => by
  obtain ⟨rfl, hw, rfl⟩ := eqC_inv hy
  have hw2 : wfD TyAtom a0.1 ∧ wfD (.list TyAtom) a0.2.1 ∧ wfD (.list .str) a0.2.2.1 ∧ wfD (.list TyValue) a0.2.2.2 := hw
  refine ⟨0, ?_⟩
  rw [F_laws_eqThing_eq]
  simp [eqC_some hw2.1, eqC_some hw2.2.1, eqC_some hw2.2.2.1, eqC_some hw2.2.2.2]
/-! ## laws.eqThingS (14) -/
noncomputable def c_laws_eqThingS : Ctr := ⟨14, [(.list TyThing), (.list TyThing)], [.bool], fun x => eqC (.list TyThing) x.1 x.2.1⟩
def A_laws_eqThingS : List (List Nat × Ann) := [([0, 4], [.keep 0 0, .keep 0 1, .keep 0 5])]
def In_laws_eqThingS : List (List Nat × Nat) := []
noncomputable def cs_laws_eqThingS : List Ctr := [c_laws_eqThing]
noncomputable def F_laws_eqThingS (n : Nat) (a0 : (List DThing)) (a1 : (List DThing)) : Option Bool := run Try.prog A_laws_eqThingS In_laws_eqThingS (conOf cs_laws_eqThingS) Try.f14 (Try.f14.body.getD .skip) (packT [.bool]) n (argsV [(.list TyThing), (.list TyThing)] (a0, a1, ()))
noncomputable abbrev L_laws_eqThingS_0_4 (n : Nat) (x1 : (List DThing)) (x2 : (List DThing)) (x3 : Int) : Option Bool := lam Try.prog A_laws_eqThingS In_laws_eqThingS (conOf cs_laws_eqThingS) Try.f14 (Try.f14.body.getD .skip) (packT [.bool]) n [0, 4] [.d (.list TyThing) x1, .d (.list TyThing) x2, .d I64 x3]
theorem F_laws_eqThingS_eq (n : Nat) (a0 : (List DThing)) (a1 : (List DThing)) : F_laws_eqThingS n a0 a1 =
    bif !decide ((a0.length : Int) = (a1.length : Int)) then
      some false
    else
      L_laws_eqThingS_0_4 n a0 a1 0 := by kernel_rfl
theorem L_laws_eqThingS_0_4_eq (n : Nat) (x1 : (List DThing)) (x2 : (List DThing)) (x3 : Int) : L_laws_eqThingS_0_4 (n + 1) x1 x2 x3 =
    bif decide (x3 < (x1.length : Int)) then
      bif inB x3 x1.length then
        bif inB x3 x2.length then
          Option.bind (eqC TyThing (((rd x1 x3 (Ty.dflt TyThing)).1), ((rd x1 x3 (Ty.dflt TyThing)).2)) (((rd x2 x3 (Ty.dflt TyThing)).1), ((rd x2 x3 (Ty.dflt TyThing)).2))) fun (y1 : Bool) =>
          bif !(y1) then
            some false
          else
            L_laws_eqThingS_0_4 n x1 x2 (IntKind.wrap .i64 (x3 + 1))
        else none
      else none
    else
      some true := by kernel_rfl
theorem mk_laws_eqThingS (hcs : ∀ x ∈ cs_laws_eqThingS, CtrOk Try.prog x) (h : ∀ (a0 : (List DThing)) (a1 : (List DThing)) y, eqC (.list TyThing) a0 a1 = some y → ∃ n, F_laws_eqThingS n a0 a1 = some y) : CtrOk Try.prog c_laws_eqThingS := by
  refine ctr_of_run (c := c_laws_eqThingS) (by kernel_rfl : Try.prog.funcs[14]? = some Try.f14) (code := Try.f14.body.getD .skip) (by kernel_rfl) (by kernel_rfl) (by kernel_rfl) (A := A_laws_eqThingS) (I := In_laws_eqThingS) hcs ?_
  rintro ⟨a0, a1, u⟩ y hy
  exact h a0 a1 y hy

theorem hcs_laws_eqThingS : ∀ x ∈ cs_laws_eqThingS, CtrOk Try.prog x := (conOf_cons ok_laws_eqThing conOf_nil)
theorem ok_laws_eqThingS : CtrOk Try.prog c_laws_eqThingS := mk_laws_eqThingS hcs_laws_eqThingS fun a0 a1 y hy => by
  obtain ⟨n, hn⟩ := eqS_ok (t := TyThing) (body := fun x y K => Option.bind (eqC TyThing x y) fun b => bif !b then some false else K ()) (fun x K h => by simp only [eqC_some h, Option.bind_some, Bool.not_true, cond_false]) (fun n xs ys i => L_laws_eqThingS_0_4_eq n xs ys i) hy
  exact ⟨n, (F_laws_eqThingS_eq n a0 a1).trans hn⟩
/-! ## laws.FnExactHeadMatches (3) -/
noncomputable def P_laws_FnExactHeadMatches (a0 : (List DThing)) (a1 : DHead) (a2 : DAtom) : Option Bool :=
  Option.bind (szC (.list TyThing) a0 1048576) fun (y1 : Int) =>
  bif decide (y1 < 0) then
    some true
  else
    Option.bind (szC TyHead a1 y1) fun (y2 : Int) =>
    bif decide (y2 < 0) then
      some true
    else
      Option.bind (szC TyAtom a2 y2) fun (y3 : Int) =>
      bif decide (y3 < 0) then
        some true
      else
        Option.bind (toC (.list TyThing) a0) fun (y4 : (List DThing)) =>
        Option.bind (toC TyHead a1) fun (y5 : DHead) =>
        Option.bind (toC TyAtom a2) fun (y6 : DAtom) =>
        Option.bind (P_spec_HeadMatches y4 y5 y6) fun (y7 : Bool) =>
        Option.bind (toC (.list TyThing) a0) fun (y8 : (List DThing)) =>
        Option.bind (toC TyHead a1) fun (y9 : DHead) =>
        Option.bind (toC TyAtom a2) fun (y10 : DAtom) =>
        Option.bind (P_impl_HeadMatches y8 y9 y10) fun (y11 : Bool) =>
        bif y11 != y7 then
          some false
        else
          Option.bind (toC (.list TyThing) a0) fun (y12 : (List DThing)) =>
          Option.bind (eqC (.list TyThing) y8 y12) fun (y13 : Bool) =>
          bif !(y13) then
            some false
          else
            some true
def A_laws_FnExactHeadMatches : List (List Nat × Ann) := []
def In_laws_FnExactHeadMatches : List (List Nat × Nat) := []
noncomputable def cs_laws_FnExactHeadMatches : List Ctr := [c_laws_szThingS, c_laws_szHead, c_laws_szAtom, c_laws_toThingS, c_laws_toHead, c_laws_toAtom, c_spec_HeadMatches, c_impl_HeadMatches, c_laws_eqThingS]
noncomputable def F_laws_FnExactHeadMatches (n : Nat) (a0 : (List DThing)) (a1 : DHead) (a2 : DAtom) : Option Bool := run Try.prog A_laws_FnExactHeadMatches In_laws_FnExactHeadMatches (conOf cs_laws_FnExactHeadMatches) Try.f3 (Try.f3.body.getD .skip) (packT [.bool]) n (argsV [(.list TyThing), TyHead, TyAtom] (a0, a1, a2, ()))
theorem F_laws_FnExactHeadMatches_eq (n : Nat) (a0 : (List DThing)) (a1 : DHead) (a2 : DAtom) : F_laws_FnExactHeadMatches n a0 a1 a2 =
    Option.bind (szC (.list TyThing) a0 1048576) fun (y1 : Int) =>
    bif decide (y1 < 0) then
      some true
    else
      Option.bind (szC TyHead a1 y1) fun (y2 : Int) =>
      bif decide (y2 < 0) then
        some true
      else
        Option.bind (szC TyAtom a2 y2) fun (y3 : Int) =>
        bif decide (y3 < 0) then
          some true
        else
          Option.bind (toC (.list TyThing) a0) fun (y4 : (List DThing)) =>
          Option.bind (toC TyHead a1) fun (y5 : DHead) =>
          Option.bind (toC TyAtom a2) fun (y6 : DAtom) =>
          Option.bind (P_spec_HeadMatches y4 y5 y6) fun (y7 : Bool) =>
          Option.bind (toC (.list TyThing) a0) fun (y8 : (List DThing)) =>
          Option.bind (toC TyHead a1) fun (y9 : DHead) =>
          Option.bind (toC TyAtom a2) fun (y10 : DAtom) =>
          Option.bind (P_impl_HeadMatches y8 y9 y10) fun (y11 : Bool) =>
          bif y11 != y7 then
            some false
          else
            Option.bind (toC (.list TyThing) a0) fun (y12 : (List DThing)) =>
            Option.bind (eqC (.list TyThing) y8 y12) fun (y13 : Bool) =>
            bif !(y13) then
              some false
            else
              some true := by kernel_rfl
theorem S_laws_FnExactHeadMatches (a0 : (List DThing)) (a1 : DHead) (a2 : DAtom) {r : Bool} (h : P_laws_FnExactHeadMatches a0 a1 a2 = some r) : Ev (fun n => F_laws_FnExactHeadMatches n a0 a1 a2) r := by
  rw [P_laws_FnExactHeadMatches] at h
  refine Ev.of_eq ?_ (fun n => F_laws_FnExactHeadMatches_eq n a0 a1 a2)
  exact (Ev.ofBind h fun y1 h => (Ev.ofBif h (fun h => (Ev.ofSome h)) (fun h => (Ev.ofBind h fun y2 h => (Ev.ofBif h (fun h => (Ev.ofSome h)) (fun h => (Ev.ofBind h fun y3 h => (Ev.ofBif h (fun h => (Ev.ofSome h)) (fun h => (Ev.ofBind h fun y4 h => (Ev.ofBind h fun y5 h => (Ev.ofBind h fun y6 h => (Ev.ofBind h fun y7 h => (Ev.ofBind h fun y8 h => (Ev.ofBind h fun y9 h => (Ev.ofBind h fun y10 h => (Ev.ofBind h fun y11 h => (Ev.ofBif h (fun h => (Ev.ofSome h)) (fun h => (Ev.ofBind h fun y12 h => (Ev.ofBind h fun y13 h => (Ev.ofBif h (fun h => (Ev.ofSome h)) (fun h => (Ev.ofSome h))))))))))))))))))))))))

end Go.Ab
