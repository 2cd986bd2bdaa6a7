/- generated -/
import Derived.Test.YthnejijnpepgjaaAb23
import Derived.Test.YthnejijnpepgjaaProg
import Derived.KernelRfl
namespace Go.Ab
open Go.Proofs
set_option maxRecDepth 20000
abbrev I64 : Ty := .int .i64
abbrev U8 : Ty := .int .u8
abbrev TyboundsError : Ty := (.pair I64 (.pair I64 (.pair .bool U8)))
abbrev DboundsError : Type := (Int × (Int × (Bool × Int)))
abbrev TyerrorAddressString : Ty := (.pair .str (.int .u64))
abbrev DerrorAddressString : Type := ((List Int) × Int)
abbrev TyRole : Ty := (.pair .str (.pair (.list .str) (.list .str)))
abbrev DRole : Type := ((List Int) × ((List (List Int)) × (List (List Int))))
abbrev TyApart : Ty := (.pair (.list .str) (.pair I64 .bool))
abbrev DApart : Type := ((List (List Int)) × (Int × Bool))
abbrev TyRoleSet : Ty := (.pair (.list TyRole) (.pair (.list TyApart) (.list .str)))
abbrev DRoleSet : Type := ((List DRole) × ((List DApart) × (List (List Int))))
abbrev TyAtom : Ty := (.pair I64 (.pair I64 (.pair .str .str)))
abbrev DAtom : Type := (Int × (Int × ((List Int) × (List Int))))
abbrev TyValue : Ty := (.pair I64 (.pair TyAtom (.pair (.list TyAtom) (.list .str))))
abbrev DValue : Type := (Int × (DAtom × ((List DAtom) × (List (List Int)))))
abbrev TyRequest : Ty := (.pair TyAtom (.pair TyAtom (.pair TyAtom (.pair (.list .str) (.list TyValue)))))
abbrev DRequest : Type := (DAtom × (DAtom × (DAtom × ((List (List Int)) × (List DValue)))))
abbrev TyThing : Ty := (.pair TyAtom (.pair (.list TyAtom) (.pair (.list .str) (.list TyValue))))
abbrev DThing : Type := (DAtom × ((List DAtom) × ((List (List Int)) × (List DValue))))
/-! ## spec.l1Printed (98) -/
noncomputable def P_spec_l1Printed_0_2 : List Int → Option Bool
  | [] =>
      some true
  | e :: rest =>
      bif decide (e < 32) then
        some false
      else
        bif decide ((126 : Int) < e) then
          some false
        else
          P_spec_l1Printed_0_2 rest
noncomputable def P_spec_l1Printed (a0 : (List Int)) : Option Bool :=
  lenOk a0 (P_spec_l1Printed_0_2 a0)
noncomputable def c_spec_l1Printed : Ctr := ⟨98, [.str], [.bool], fun x => P_spec_l1Printed x.1⟩
def A_spec_l1Printed : List (List Nat × Ann) := [([0, 2], [.keep 0 0, .keep 0 3])]
def In_spec_l1Printed : List (List Nat × Nat) := []
noncomputable def cs_spec_l1Printed : List Ctr := []
noncomputable def F_spec_l1Printed (n : Nat) (a0 : (List Int)) : Option Bool := run Try.prog A_spec_l1Printed In_spec_l1Printed (conOf cs_spec_l1Printed) Try.f98 (Try.f98.body.getD .skip) (packT [.bool]) n (argsV [.str] (a0, ()))
noncomputable abbrev L_spec_l1Printed_0_2 (n : Nat) (x1 : (List Int)) (x2 : Int) : Option Bool := lam Try.prog A_spec_l1Printed In_spec_l1Printed (conOf cs_spec_l1Printed) Try.f98 (Try.f98.body.getD .skip) (packT [.bool]) n [0, 2] [.d .str x1, .d I64 x2]
theorem F_spec_l1Printed_eq (n : Nat) (a0 : (List Int)) : F_spec_l1Printed n a0 =
    L_spec_l1Printed_0_2 n a0 0 := by kernel_rfl
theorem L_spec_l1Printed_0_2_eq (n : Nat) (x1 : (List Int)) (x2 : Int) : L_spec_l1Printed_0_2 (n + 1) x1 x2 =
    bif decide (x2 < (x1.length : Int)) then
      bif inB x2 x1.length then
        bif decide (rd x1 x2 0 < 32) then
          some false
        else
          bif inB x2 x1.length then
            bif decide ((126 : Int) < rd x1 x2 0) then
              some false
            else
              L_spec_l1Printed_0_2 n x1 (IntKind.wrap .i64 (x2 + 1))
          else none
      else none
    else
      some true := by kernel_rfl
theorem S_spec_l1Printed_0_2 {x1 : (List Int)} (hl : x1.length ≤ maxLen) : ∀ (rest : List Int) (k : Nat) (r : Bool), rest = x1.drop k → P_spec_l1Printed_0_2 rest = some r → Ev (fun n => L_spec_l1Printed_0_2 n x1 (k : Int)) r := by
  intro rest
  induction rest with
  | nil =>
    intro k r hr h
    have hk := drop_nil hr
    rw [P_spec_l1Printed_0_2] at h
    refine Ev.step ?_ (fun n => L_spec_l1Printed_0_2_eq n x1 (k : Int))
    rw [show decide ((k : Int) < (x1.length : Int)) = false from decide_eq_false (by omega)]
    exact Ev.neg rfl (Ev.ofSome h)
  | cons e rest ih =>
    intro k r hr h
    obtain ⟨hk, hx, hr2⟩ := drop_cons (d := 0) hr
    have hw := wrap_succ hl hk
    have ih2 : ∀ (r : Bool), P_spec_l1Printed_0_2 rest = some r → Ev (fun n => L_spec_l1Printed_0_2 n x1 (IntKind.wrap .i64 ((k : Int) + 1))) r := by
      intro r h; rw [hw]; exact ih (k + 1) r hr2 h
    rw [P_spec_l1Printed_0_2] at h
    refine Ev.step ?_ (fun n => L_spec_l1Printed_0_2_eq n x1 (k : Int))
    rw [show decide ((k : Int) < (x1.length : Int)) = true from decide_eq_true (by omega), inB_nat2 hk, hx]
    exact Ev.pos rfl (Ev.pos rfl (Ev.ofBif h (fun h => (Ev.ofSome h)) (fun h => (Ev.pos rfl (Ev.ofBif h (fun h => (Ev.ofSome h)) (fun h => (ih2  _ h)))))))
theorem S_spec_l1Printed (a0 : (List Int)) {r : Bool} (h : P_spec_l1Printed a0 = some r) : Ev (fun n => F_spec_l1Printed n a0) r := by
  rw [P_spec_l1Printed] at h
  refine Ev.of_eq ?_ (fun n => F_spec_l1Printed_eq n a0)
  exact (Ev.ofLen h fun hl h => S_spec_l1Printed_0_2 hl _ (0 : Nat) _ rfl h)
theorem hcs_spec_l1Printed : ∀ x ∈ cs_spec_l1Printed, CtrOk Try.prog x := conOf_nil
theorem ok_spec_l1Printed : CtrOk Try.prog c_spec_l1Printed := by
  refine ctr_of_run (c := c_spec_l1Printed) (by kernel_rfl : Try.prog.funcs[98]? = some Try.f98) (code := Try.f98.body.getD .skip) (by kernel_rfl) (by kernel_rfl) (by kernel_rfl) (A := A_spec_l1Printed) (I := In_spec_l1Printed) hcs_spec_l1Printed ?_
  rintro ⟨a0, u⟩ y hy
  exact (S_spec_l1Printed a0 hy).get

/-! ## spec.l1Digit (64) -/
def T_spec_l1Digit (a0 : Int) : Bool :=
  bif decide ((48 : Int) ≤ a0) then
    decide (a0 ≤ 57)
  else
    false
noncomputable def c_spec_l1Digit : Ctr := ⟨64, [U8], [.bool], fun x => some (T_spec_l1Digit x.1)⟩
def A_spec_l1Digit : List (List Nat × Ann) := []
def In_spec_l1Digit : List (List Nat × Nat) := []
noncomputable def cs_spec_l1Digit : List Ctr := []
noncomputable def F_spec_l1Digit (n : Nat) (a0 : Int) : Option Bool := run Try.prog A_spec_l1Digit In_spec_l1Digit (conOf cs_spec_l1Digit) Try.f64 (Try.f64.body.getD .skip) (packT [.bool]) n (argsV [U8] (a0, ()))
theorem F_spec_l1Digit_eq (n : Nat) (a0 : Int) : F_spec_l1Digit n a0 =
    bif decide ((48 : Int) ≤ a0) then
      some (decide (a0 ≤ 57))
    else
      some false := by kernel_rfl
theorem S_spec_l1Digit (n : Nat) (a0 : Int) : F_spec_l1Digit n a0 = some (T_spec_l1Digit a0) := (F_spec_l1Digit_eq n a0).trans (cond_some rfl rfl)
theorem hcs_spec_l1Digit : ∀ x ∈ cs_spec_l1Digit, CtrOk Try.prog x := conOf_nil
theorem ok_spec_l1Digit : CtrOk Try.prog c_spec_l1Digit := by
  refine ctr_of_run (c := c_spec_l1Digit) (by kernel_rfl : Try.prog.funcs[64]? = some Try.f64) (code := Try.f64.body.getD .skip) (by kernel_rfl) (by kernel_rfl) (by kernel_rfl) (A := A_spec_l1Digit) (I := In_spec_l1Digit) hcs_spec_l1Digit ?_
  rintro ⟨a0, u⟩ y hy
  exact ⟨0, (S_spec_l1Digit 0 a0).trans hy⟩

/-! ## spec.l1Letter (65) -/
def T_spec_l1Letter (a0 : Int) : Bool :=
  bif decide ((97 : Int) ≤ a0) then
    bif decide (a0 ≤ 122) then
      true
    else
      bif decide ((65 : Int) ≤ a0) then
        decide (a0 ≤ 90)
      else
        false
  else
    bif decide ((65 : Int) ≤ a0) then
      decide (a0 ≤ 90)
    else
      false
noncomputable def c_spec_l1Letter : Ctr := ⟨65, [U8], [.bool], fun x => some (T_spec_l1Letter x.1)⟩
def A_spec_l1Letter : List (List Nat × Ann) := []
def In_spec_l1Letter : List (List Nat × Nat) := []
noncomputable def cs_spec_l1Letter : List Ctr := []
noncomputable def F_spec_l1Letter (n : Nat) (a0 : Int) : Option Bool := run Try.prog A_spec_l1Letter In_spec_l1Letter (conOf cs_spec_l1Letter) Try.f65 (Try.f65.body.getD .skip) (packT [.bool]) n (argsV [U8] (a0, ()))
theorem F_spec_l1Letter_eq (n : Nat) (a0 : Int) : F_spec_l1Letter n a0 =
    bif decide ((97 : Int) ≤ a0) then
      bif decide (a0 ≤ 122) then
        some true
      else
        bif decide ((65 : Int) ≤ a0) then
          some (decide (a0 ≤ 90))
        else
          some false
    else
      bif decide ((65 : Int) ≤ a0) then
        some (decide (a0 ≤ 90))
      else
        some false := by kernel_rfl
theorem S_spec_l1Letter (n : Nat) (a0 : Int) : F_spec_l1Letter n a0 = some (T_spec_l1Letter a0) := (F_spec_l1Letter_eq n a0).trans (cond_some (cond_some rfl (cond_some rfl rfl)) (cond_some rfl rfl))
theorem hcs_spec_l1Letter : ∀ x ∈ cs_spec_l1Letter, CtrOk Try.prog x := conOf_nil
theorem ok_spec_l1Letter : CtrOk Try.prog c_spec_l1Letter := by
  refine ctr_of_run (c := c_spec_l1Letter) (by kernel_rfl : Try.prog.funcs[65]? = some Try.f65) (code := Try.f65.body.getD .skip) (by kernel_rfl) (by kernel_rfl) (by kernel_rfl) (A := A_spec_l1Letter) (I := In_spec_l1Letter) hcs_spec_l1Letter ?_
  rintro ⟨a0, u⟩ y hy
  exact ⟨0, (S_spec_l1Letter 0 a0).trans hy⟩

/-! ## spec.GoodName (25) -/
noncomputable def P_spec_GoodName_0_4 : List Int → Option Bool
  | [] =>
      some true
  | e :: rest =>
      bif !(T_spec_l1Letter (e)) then
        bif !(T_spec_l1Digit (e)) then
          bif !decide (e = 95) then
            some false
          else
            P_spec_GoodName_0_4 rest
        else
          P_spec_GoodName_0_4 rest
      else
        P_spec_GoodName_0_4 rest
noncomputable def P_spec_GoodName (a0 : (List Int)) : Option Bool :=
  bif decide ((a0.length : Int) < 1) then
    some false
  else
    bif decide ((30 : Int) < (a0.length : Int)) then
      some false
    else
      bif inB 0 a0.length then
        bif T_spec_l1Digit (rd a0 0 0) then
          some false
        else
          lenOk a0 (P_spec_GoodName_0_4 a0)
      else none
noncomputable def c_spec_GoodName : Ctr := ⟨25, [.str], [.bool], fun x => P_spec_GoodName x.1⟩
def A_spec_GoodName : List (List Nat × Ann) := [([0, 4], [.keep 0 0, .keep 0 3])]
def In_spec_GoodName : List (List Nat × Nat) := []
noncomputable def cs_spec_GoodName : List Ctr := [c_spec_l1Digit, c_spec_l1Letter]
noncomputable def F_spec_GoodName (n : Nat) (a0 : (List Int)) : Option Bool := run Try.prog A_spec_GoodName In_spec_GoodName (conOf cs_spec_GoodName) Try.f25 (Try.f25.body.getD .skip) (packT [.bool]) n (argsV [.str] (a0, ()))
noncomputable abbrev L_spec_GoodName_0_4 (n : Nat) (x1 : (List Int)) (x2 : Int) : Option Bool := lam Try.prog A_spec_GoodName In_spec_GoodName (conOf cs_spec_GoodName) Try.f25 (Try.f25.body.getD .skip) (packT [.bool]) n [0, 4] [.d .str x1, .d I64 x2]
theorem F_spec_GoodName_eq (n : Nat) (a0 : (List Int)) : F_spec_GoodName n a0 =
    bif decide ((a0.length : Int) < 1) then
      some false
    else
      bif decide ((30 : Int) < (a0.length : Int)) then
        some false
      else
        bif inB 0 a0.length then
          bif T_spec_l1Digit (rd a0 0 0) then
            some false
          else
            L_spec_GoodName_0_4 n a0 0
        else none := by kernel_rfl
theorem L_spec_GoodName_0_4_eq (n : Nat) (x1 : (List Int)) (x2 : Int) : L_spec_GoodName_0_4 (n + 1) x1 x2 =
    bif decide (x2 < (x1.length : Int)) then
      bif inB x2 x1.length then
        bif !(T_spec_l1Letter (rd x1 x2 0)) then
          bif inB x2 x1.length then
            bif !(T_spec_l1Digit (rd x1 x2 0)) then
              bif inB x2 x1.length then
                bif !decide (rd x1 x2 0 = 95) then
                  some false
                else
                  L_spec_GoodName_0_4 n x1 (IntKind.wrap .i64 (x2 + 1))
              else none
            else
              L_spec_GoodName_0_4 n x1 (IntKind.wrap .i64 (x2 + 1))
          else none
        else
          L_spec_GoodName_0_4 n x1 (IntKind.wrap .i64 (x2 + 1))
      else none
    else
      some true := by kernel_rfl
theorem S_spec_GoodName_0_4 {x1 : (List Int)} (hl : x1.length ≤ maxLen) : ∀ (rest : List Int) (k : Nat) (r : Bool), rest = x1.drop k → P_spec_GoodName_0_4 rest = some r → Ev (fun n => L_spec_GoodName_0_4 n x1 (k : Int)) r := by
  intro rest
  induction rest with
  | nil =>
    intro k r hr h
    have hk := drop_nil hr
    rw [P_spec_GoodName_0_4] at h
    refine Ev.step ?_ (fun n => L_spec_GoodName_0_4_eq n x1 (k : Int))
    rw [show decide ((k : Int) < (x1.length : Int)) = false from decide_eq_false (by omega)]
    exact Ev.neg rfl (Ev.ofSome h)
  | cons e rest ih =>
    intro k r hr h
    obtain ⟨hk, hx, hr2⟩ := drop_cons (d := 0) hr
    have hw := wrap_succ hl hk
    have ih2 : ∀ (r : Bool), P_spec_GoodName_0_4 rest = some r → Ev (fun n => L_spec_GoodName_0_4 n x1 (IntKind.wrap .i64 ((k : Int) + 1))) r := by
      intro r h; rw [hw]; exact ih (k + 1) r hr2 h
    rw [P_spec_GoodName_0_4] at h
    refine Ev.step ?_ (fun n => L_spec_GoodName_0_4_eq n x1 (k : Int))
    rw [show decide ((k : Int) < (x1.length : Int)) = true from decide_eq_true (by omega), inB_nat2 hk, hx]
    exact Ev.pos rfl (Ev.pos rfl (Ev.ofBif h (fun h => (Ev.pos rfl (Ev.ofBif h (fun h => (Ev.pos rfl (Ev.ofBif h (fun h => (Ev.ofSome h)) (fun h => (ih2  _ h))))) (fun h => (ih2  _ h))))) (fun h => (ih2  _ h))))
theorem S_spec_GoodName (a0 : (List Int)) {r : Bool} (h : P_spec_GoodName a0 = some r) : Ev (fun n => F_spec_GoodName n a0) r := by
  rw [P_spec_GoodName] at h
  refine Ev.of_eq ?_ (fun n => F_spec_GoodName_eq n a0)
  exact (Ev.ofBif h (fun h => (Ev.ofSome h)) (fun h => (Ev.ofBif h (fun h => (Ev.ofSome h)) (fun h => (Ev.ofBif h (fun h => (Ev.ofBif h (fun h => (Ev.ofSome h)) (fun h => (Ev.ofLen h fun hl h => S_spec_GoodName_0_4 hl _ (0 : Nat) _ rfl h)))) (fun h => (Ev.ofNone h)))))))
theorem hcs_spec_GoodName : ∀ x ∈ cs_spec_GoodName, CtrOk Try.prog x := (conOf_cons ok_spec_l1Digit (conOf_cons ok_spec_l1Letter conOf_nil))
theorem ok_spec_GoodName : CtrOk Try.prog c_spec_GoodName := by
  refine ctr_of_run (c := c_spec_GoodName) (by kernel_rfl : Try.prog.funcs[25]? = some Try.f25) (code := Try.f25.body.getD .skip) (by kernel_rfl) (by kernel_rfl) (by kernel_rfl) (A := A_spec_GoodName) (I := In_spec_GoodName) hcs_spec_GoodName ?_
  rintro ⟨a0, u⟩ y hy
  exact (S_spec_GoodName a0 hy).get

/-! ## spec.l1Pow2 (99) -/
noncomputable def P_spec_l1Pow2_0_3 (x1 : Int) : Nat → Int → Int → Option Int
  | 0, _, _ => none
  | m + 1, x2, x3 =>
      bif decide (x3 < x1) then
        P_spec_l1Pow2_0_3 x1 m (IntKind.wrap .i64 (x2 * 2)) (IntKind.wrap .i64 (x3 + 1))
      else
        some x2
noncomputable def P_spec_l1Pow2 (m : Nat) (a0 : Int) : Option Int :=
  P_spec_l1Pow2_0_3 a0 m 1 0
noncomputable def E_spec_l1Pow2 (a0 : Int) : Option Int := evOpt fun m => P_spec_l1Pow2 m a0
noncomputable def c_spec_l1Pow2 : Ctr := ⟨99, [I64], [I64], fun x => E_spec_l1Pow2 x.1⟩
def A_spec_l1Pow2 : List (List Nat × Ann) := [([0, 3], [.keep 0 0, .keep 0 3, .keep 0 4])]
def In_spec_l1Pow2 : List (List Nat × Nat) := []
noncomputable def cs_spec_l1Pow2 : List Ctr := []
noncomputable def F_spec_l1Pow2 (n : Nat) (a0 : Int) : Option Int := run Try.prog A_spec_l1Pow2 In_spec_l1Pow2 (conOf cs_spec_l1Pow2) Try.f99 (Try.f99.body.getD .skip) (packT [I64]) n (argsV [I64] (a0, ()))
noncomputable abbrev L_spec_l1Pow2_0_3 (n : Nat) (x1 : Int) (x2 : Int) (x3 : Int) : Option Int := lam Try.prog A_spec_l1Pow2 In_spec_l1Pow2 (conOf cs_spec_l1Pow2) Try.f99 (Try.f99.body.getD .skip) (packT [I64]) n [0, 3] [.d I64 x1, .d I64 x2, .d I64 x3]
theorem F_spec_l1Pow2_eq (n : Nat) (a0 : Int) : F_spec_l1Pow2 n a0 =
    L_spec_l1Pow2_0_3 n a0 1 0 := by kernel_rfl
theorem L_spec_l1Pow2_0_3_eq (n : Nat) (x1 : Int) (x2 : Int) (x3 : Int) : L_spec_l1Pow2_0_3 (n + 1) x1 x2 x3 =
    bif decide (x3 < x1) then
      L_spec_l1Pow2_0_3 n x1 (IntKind.wrap .i64 (x2 * 2)) (IntKind.wrap .i64 (x3 + 1))
    else
      some x2 := by kernel_rfl
theorem S_spec_l1Pow2_0_3 {x1 : Int} : ∀ (m : Nat) (x2 : Int) (x3 : Int) (r : Int), P_spec_l1Pow2_0_3 x1 m x2 x3 = some r → Ev (fun n => L_spec_l1Pow2_0_3 n x1 x2 x3) r := by
  intro m
  induction m with
  | zero => intro x2 x3 r h; rw [P_spec_l1Pow2_0_3] at h; exact Ev.ofNone h
  | succ m ih2 =>
    intro x2 x3 r h
    rw [P_spec_l1Pow2_0_3] at h
    refine Ev.step ?_ (fun n => L_spec_l1Pow2_0_3_eq n x1 x2 x3)
    exact (Ev.ofBif h (fun h => (ih2 _ _ _ h)) (fun h => (Ev.ofSome h)))
theorem S_spec_l1Pow2 {m : Nat} (a0 : Int) {r : Int} (h : P_spec_l1Pow2 m a0 = some r) : Ev (fun n => F_spec_l1Pow2 n a0) r := by
  rw [P_spec_l1Pow2] at h
  refine Ev.of_eq ?_ (fun n => F_spec_l1Pow2_eq n a0)
  exact (S_spec_l1Pow2_0_3 _ _ _ _ h)
theorem hcs_spec_l1Pow2 : ∀ x ∈ cs_spec_l1Pow2, CtrOk Try.prog x := conOf_nil
theorem ok_spec_l1Pow2 : CtrOk Try.prog c_spec_l1Pow2 := by
  refine ctr_of_run (c := c_spec_l1Pow2) (by kernel_rfl : Try.prog.funcs[99]? = some Try.f99) (code := Try.f99.body.getD .skip) (by kernel_rfl) (by kernel_rfl) (by kernel_rfl) (A := A_spec_l1Pow2) (I := In_spec_l1Pow2) hcs_spec_l1Pow2 ?_
  rintro ⟨a0, u⟩ y hy
  exact let ⟨_, h⟩ := (evOpt_get hy).get; (S_spec_l1Pow2 a0 h).get

/-! ## spec.l1Block (100) -/
noncomputable def P_spec_l1Block (a0 : DAtom) : Option (Int × Int) :=
  Option.bind (E_spec_l1Pow2 (IntKind.wrap .i64 (32 - (Int.tmod a0.2.1 64)))) fun (y1 : Int) =>
  some (IntKind.wrap .i64 (Int.tdiv a0.2.1 64), y1)
noncomputable def c_spec_l1Block : Ctr := ⟨100, [TyAtom], [I64, I64], fun x => P_spec_l1Block x.1⟩
def A_spec_l1Block : List (List Nat × Ann) := []
def In_spec_l1Block : List (List Nat × Nat) := []
noncomputable def cs_spec_l1Block : List Ctr := [c_spec_l1Pow2]
noncomputable def F_spec_l1Block (n : Nat) (a0 : DAtom) : Option (Int × Int) := run Try.prog A_spec_l1Block In_spec_l1Block (conOf cs_spec_l1Block) Try.f100 (Try.f100.body.getD .skip) (packT [I64, I64]) n (argsV [TyAtom] (a0, ()))
theorem F_spec_l1Block_eq (n : Nat) (a0 : DAtom) : F_spec_l1Block n a0 =
    Option.bind (E_spec_l1Pow2 (IntKind.wrap .i64 (32 - (Int.tmod a0.2.1 64)))) fun (y1 : Int) =>
    some (IntKind.wrap .i64 (Int.tdiv a0.2.1 64), y1) := by kernel_rfl
theorem S_spec_l1Block (a0 : DAtom) {r : (Int × Int)} (h : P_spec_l1Block a0 = some r) : Ev (fun n => F_spec_l1Block n a0) r := by
  rw [P_spec_l1Block] at h
  refine Ev.of_eq ?_ (fun n => F_spec_l1Block_eq n a0)
  exact (Ev.ofBind h fun y1 h => (Ev.ofSome h))
theorem hcs_spec_l1Block : ∀ x ∈ cs_spec_l1Block, CtrOk Try.prog x := (conOf_cons ok_spec_l1Pow2 conOf_nil)
theorem ok_spec_l1Block : CtrOk Try.prog c_spec_l1Block := by
  refine ctr_of_run (c := c_spec_l1Block) (by kernel_rfl : Try.prog.funcs[100]? = some Try.f100) (code := Try.f100.body.getD .skip) (by kernel_rfl) (by kernel_rfl) (by kernel_rfl) (A := A_spec_l1Block) (I := In_spec_l1Block) hcs_spec_l1Block ?_
  rintro ⟨a0, u⟩ y hy
  exact (S_spec_l1Block a0 hy).get

/-! ## spec.GoodAtom (80) -/
noncomputable def P_spec_GoodAtom_1_8 (x1 : Int) (x2 : Bool) (x3 : DAtom) : Option Bool :=
  bif x2 then
    some true
  else
    bif decide (x1 = 3) then
      bif decide (x3.2.1 = 0) then
        bif decide ((x3.2.2.1.length : Int) ≤ 200) then
          Option.bind (P_spec_l1Printed x3.2.2.1) fun (y1 : Bool) =>
          some y1
        else
          some false
      else
        some false
    else
      bif decide (x1 = 4) then
        bif decide (x3.2.1 = 0) then
          Option.bind (P_spec_GoodName x3.2.2.2) fun (y2 : Bool) =>
          bif y2 then
            bif decide ((1 : Int) ≤ (x3.2.2.1.length : Int)) then
              bif decide ((x3.2.2.1.length : Int) ≤ 200) then
                Option.bind (P_spec_l1Printed x3.2.2.1) fun (y3 : Bool) =>
                some y3
              else
                some false
            else
              some false
          else
            some false
        else
          some false
      else
        bif decide (x1 = 6) then
          bif decide (x3.2.1 < 0) then
            some false
          else
            Option.bind (E_spec_l1Pow2 32) fun (y4 : Int) =>
            bif decide (IntKind.wrap .i64 (y4 - 1) < IntKind.wrap .i64 (Int.tdiv x3.2.1 64)) then
              some false
            else
              bif decide ((32 : Int) < Int.tmod x3.2.1 64) then
                some false
              else
                Option.bind (P_spec_l1Block x3) fun (y5 : (Int × Int)) =>
                bif decide (y5.2 = 0) then none else
                some (decide (Int.tmod y5.1 y5.2 = 0))
        else
          bif decide (x1 = 7) then
            bif decide (((-100000000000) : Int) ≤ x3.2.1) then
              some (decide (x3.2.1 ≤ 100000000000))
            else
              some false
          else
            some false
noncomputable def P_spec_GoodAtom_1_3 (x1 : DAtom) : Option Bool :=
  bif decide (x1.1 = 1) then
    bif decide (x1.2.1 = 0) then
      some true
    else
      some (decide (x1.2.1 = 1))
  else
    bif decide (x1.1 = 2) then
      P_spec_GoodAtom_1_8 x1.1 (decide (x1.1 = 2)) x1
    else
      P_spec_GoodAtom_1_8 x1.1 (decide (x1.1 = 5)) x1
noncomputable def P_spec_GoodAtom (a0 : DAtom) : Option Bool :=
  bif !decide (a0.1 = 3) then
    bif !decide (a0.1 = 4) then
      bif !decide (a0.2.2.1 = ([] : List Int)) then
        some false
      else
        bif !decide (a0.1 = 4) then
          bif !decide (a0.2.2.2 = ([] : List Int)) then
            some false
          else
            P_spec_GoodAtom_1_3 a0
        else
          P_spec_GoodAtom_1_3 a0
    else
      bif !decide (a0.1 = 4) then
        bif !decide (a0.2.2.2 = ([] : List Int)) then
          some false
        else
          P_spec_GoodAtom_1_3 a0
      else
        P_spec_GoodAtom_1_3 a0
  else
    bif !decide (a0.1 = 4) then
      bif !decide (a0.2.2.2 = ([] : List Int)) then
        some false
      else
        P_spec_GoodAtom_1_3 a0
    else
      P_spec_GoodAtom_1_3 a0
noncomputable def c_spec_GoodAtom : Ctr := ⟨80, [TyAtom], [.bool], fun x => P_spec_GoodAtom x.1⟩
def A_spec_GoodAtom : List (List Nat × Ann) := [([1, 3], [.keep 0 1, .box 0 1 4]), ([1, 8], [.keep 0 1, .keep 0 29, .keep 0 40, .box 0 1 4])]
def In_spec_GoodAtom : List (List Nat × Nat) := []
noncomputable def cs_spec_GoodAtom : List Ctr := [c_spec_l1Printed, c_spec_GoodName, c_spec_l1Pow2, c_spec_l1Block]
noncomputable def F_spec_GoodAtom (n : Nat) (a0 : DAtom) : Option Bool := run Try.prog A_spec_GoodAtom In_spec_GoodAtom (conOf cs_spec_GoodAtom) Try.f80 (Try.f80.body.getD .skip) (packT [.bool]) n (argsV [TyAtom] (a0, ()))
noncomputable abbrev L_spec_GoodAtom_1_3 (n : Nat) (x1 : DAtom) : Option Bool := lam Try.prog A_spec_GoodAtom In_spec_GoodAtom (conOf cs_spec_GoodAtom) Try.f80 (Try.f80.body.getD .skip) (packT [.bool]) n [1, 3] [.ptr 0 1 0, .agg (explode TyAtom x1)]
noncomputable abbrev L_spec_GoodAtom_1_8 (n : Nat) (x1 : Int) (x2 : Bool) (x3 : DAtom) : Option Bool := lam Try.prog A_spec_GoodAtom In_spec_GoodAtom (conOf cs_spec_GoodAtom) Try.f80 (Try.f80.body.getD .skip) (packT [.bool]) n [1, 8] [.ptr 0 1 0, .d I64 x1, .d .bool x2, .agg (explode TyAtom x3)]
theorem F_spec_GoodAtom_eq (n : Nat) (a0 : DAtom) : F_spec_GoodAtom n a0 =
    bif !decide (a0.1 = 3) then
      bif !decide (a0.1 = 4) then
        bif !decide (a0.2.2.1 = ([] : List Int)) then
          some false
        else
          bif !decide (a0.1 = 4) then
            bif !decide (a0.2.2.2 = ([] : List Int)) then
              some false
            else
              L_spec_GoodAtom_1_3 n a0
          else
            L_spec_GoodAtom_1_3 n a0
      else
        bif !decide (a0.1 = 4) then
          bif !decide (a0.2.2.2 = ([] : List Int)) then
            some false
          else
            L_spec_GoodAtom_1_3 n a0
        else
          L_spec_GoodAtom_1_3 n a0
    else
      bif !decide (a0.1 = 4) then
        bif !decide (a0.2.2.2 = ([] : List Int)) then
          some false
        else
          L_spec_GoodAtom_1_3 n a0
      else
        L_spec_GoodAtom_1_3 n a0 := by kernel_rfl
theorem L_spec_GoodAtom_1_3_eq (n : Nat) (x1 : DAtom) : L_spec_GoodAtom_1_3 (n + 1) x1 =
    bif decide (x1.1 = 1) then
      bif decide (x1.2.1 = 0) then
        some true
      else
        some (decide (x1.2.1 = 1))
    else
      bif decide (x1.1 = 2) then
        L_spec_GoodAtom_1_8 n x1.1 (decide (x1.1 = 2)) x1
      else
        L_spec_GoodAtom_1_8 n x1.1 (decide (x1.1 = 5)) x1 := by kernel_rfl
theorem L_spec_GoodAtom_1_8_eq (n : Nat) (x1 : Int) (x2 : Bool) (x3 : DAtom) : L_spec_GoodAtom_1_8 (n + 1) x1 x2 x3 =
    bif x2 then
      some true
    else
      bif decide (x1 = 3) then
        bif decide (x3.2.1 = 0) then
          bif decide ((x3.2.2.1.length : Int) ≤ 200) then
            Option.bind (P_spec_l1Printed x3.2.2.1) fun (y1 : Bool) =>
            some y1
          else
            some false
        else
          some false
      else
        bif decide (x1 = 4) then
          bif decide (x3.2.1 = 0) then
            Option.bind (P_spec_GoodName x3.2.2.2) fun (y2 : Bool) =>
            bif y2 then
              bif decide ((1 : Int) ≤ (x3.2.2.1.length : Int)) then
                bif decide ((x3.2.2.1.length : Int) ≤ 200) then
                  Option.bind (P_spec_l1Printed x3.2.2.1) fun (y3 : Bool) =>
                  some y3
                else
                  some false
              else
                some false
            else
              some false
          else
            some false
        else
          bif decide (x1 = 6) then
            bif decide (x3.2.1 < 0) then
              some false
            else
              Option.bind (E_spec_l1Pow2 32) fun (y4 : Int) =>
              bif decide (IntKind.wrap .i64 (y4 - 1) < IntKind.wrap .i64 (Int.tdiv x3.2.1 64)) then
                some false
              else
                bif decide ((32 : Int) < Int.tmod x3.2.1 64) then
                  some false
                else
                  Option.bind (P_spec_l1Block x3) fun (y5 : (Int × Int)) =>
                  bif decide (y5.2 = 0) then none else
                  some (decide (Int.tmod y5.1 y5.2 = 0))
          else
            bif decide (x1 = 7) then
              bif decide (((-100000000000) : Int) ≤ x3.2.1) then
                some (decide (x3.2.1 ≤ 100000000000))
              else
                some false
            else
              some false := by kernel_rfl
theorem S_spec_GoodAtom_1_8 {x1 : Int} {x2 : Bool} {x3 : DAtom} {r : Bool} (h : P_spec_GoodAtom_1_8 x1 x2 x3 = some r) : Ev (fun n => L_spec_GoodAtom_1_8 n x1 x2 x3) r := by
  rw [P_spec_GoodAtom_1_8] at h
  refine Ev.step ?_ (fun n => L_spec_GoodAtom_1_8_eq n x1 x2 x3)
  exact (Ev.ofBif h (fun h => (Ev.ofSome h)) (fun h => (Ev.ofBif h (fun h => (Ev.ofBif h (fun h => (Ev.ofBif h (fun h => (Ev.ofBind h fun y1 h => (Ev.ofSome h))) (fun h => (Ev.ofSome h)))) (fun h => (Ev.ofSome h)))) (fun h => (Ev.ofBif h (fun h => (Ev.ofBif h (fun h => (Ev.ofBind h fun y2 h => (Ev.ofBif h (fun h => (Ev.ofBif h (fun h => (Ev.ofBif h (fun h => (Ev.ofBind h fun y3 h => (Ev.ofSome h))) (fun h => (Ev.ofSome h)))) (fun h => (Ev.ofSome h)))) (fun h => (Ev.ofSome h))))) (fun h => (Ev.ofSome h)))) (fun h => (Ev.ofBif h (fun h => (Ev.ofBif h (fun h => (Ev.ofSome h)) (fun h => (Ev.ofBind h fun y4 h => (Ev.ofBif h (fun h => (Ev.ofSome h)) (fun h => (Ev.ofBif h (fun h => (Ev.ofSome h)) (fun h => (Ev.ofBind h fun y5 h => (Ev.ofBif h (fun h => (Ev.ofNone h)) (fun h => (Ev.ofSome h)))))))))))) (fun h => (Ev.ofBif h (fun h => (Ev.ofBif h (fun h => (Ev.ofSome h)) (fun h => (Ev.ofSome h)))) (fun h => (Ev.ofSome h)))))))))))
theorem S_spec_GoodAtom_1_3 {x1 : DAtom} {r : Bool} (h : P_spec_GoodAtom_1_3 x1 = some r) : Ev (fun n => L_spec_GoodAtom_1_3 n x1) r := by
  rw [P_spec_GoodAtom_1_3] at h
  refine Ev.step ?_ (fun n => L_spec_GoodAtom_1_3_eq n x1)
  exact (Ev.ofBif h (fun h => (Ev.ofBif h (fun h => (Ev.ofSome h)) (fun h => (Ev.ofSome h)))) (fun h => (Ev.ofBif h (fun h => (S_spec_GoodAtom_1_8 h)) (fun h => (S_spec_GoodAtom_1_8 h)))))
theorem S_spec_GoodAtom (a0 : DAtom) {r : Bool} (h : P_spec_GoodAtom a0 = some r) : Ev (fun n => F_spec_GoodAtom n a0) r := by
  rw [P_spec_GoodAtom] at h
  refine Ev.of_eq ?_ (fun n => F_spec_GoodAtom_eq n a0)
  exact (Ev.ofBif h (fun h => (Ev.ofBif h (fun h => (Ev.ofBif h (fun h => (Ev.ofSome h)) (fun h => (Ev.ofBif h (fun h => (Ev.ofBif h (fun h => (Ev.ofSome h)) (fun h => (S_spec_GoodAtom_1_3 h)))) (fun h => (S_spec_GoodAtom_1_3 h)))))) (fun h => (Ev.ofBif h (fun h => (Ev.ofBif h (fun h => (Ev.ofSome h)) (fun h => (S_spec_GoodAtom_1_3 h)))) (fun h => (S_spec_GoodAtom_1_3 h)))))) (fun h => (Ev.ofBif h (fun h => (Ev.ofBif h (fun h => (Ev.ofSome h)) (fun h => (S_spec_GoodAtom_1_3 h)))) (fun h => (S_spec_GoodAtom_1_3 h)))))
theorem hcs_spec_GoodAtom : ∀ x ∈ cs_spec_GoodAtom, CtrOk Try.prog x := (conOf_cons ok_spec_l1Printed (conOf_cons ok_spec_GoodName (conOf_cons ok_spec_l1Pow2 (conOf_cons ok_spec_l1Block conOf_nil))))
theorem ok_spec_GoodAtom : CtrOk Try.prog c_spec_GoodAtom := by
  refine ctr_of_run (c := c_spec_GoodAtom) (by kernel_rfl : Try.prog.funcs[80]? = some Try.f80) (code := Try.f80.body.getD .skip) (by kernel_rfl) (by kernel_rfl) (by kernel_rfl) (A := A_spec_GoodAtom) (I := In_spec_GoodAtom) hcs_spec_GoodAtom ?_
  rintro ⟨a0, u⟩ y hy
  exact (S_spec_GoodAtom a0 hy).get

/-! ## spec.l11Ref (47) -/
noncomputable def P_spec_l11Ref (a0 : DAtom) : Option Bool :=
  bif decide (a0.1 = 4) then
    Option.bind (P_spec_GoodAtom a0) fun (y1 : Bool) =>
    some y1
  else
    some false
noncomputable def c_spec_l11Ref : Ctr := ⟨47, [TyAtom], [.bool], fun x => P_spec_l11Ref x.1⟩
def A_spec_l11Ref : List (List Nat × Ann) := []
def In_spec_l11Ref : List (List Nat × Nat) := []
noncomputable def cs_spec_l11Ref : List Ctr := [c_spec_GoodAtom]
noncomputable def F_spec_l11Ref (n : Nat) (a0 : DAtom) : Option Bool := run Try.prog A_spec_l11Ref In_spec_l11Ref (conOf cs_spec_l11Ref) Try.f47 (Try.f47.body.getD .skip) (packT [.bool]) n (argsV [TyAtom] (a0, ()))
theorem F_spec_l11Ref_eq (n : Nat) (a0 : DAtom) : F_spec_l11Ref n a0 =
    bif decide (a0.1 = 4) then
      Option.bind (P_spec_GoodAtom a0) fun (y1 : Bool) =>
      some y1
    else
      some false := by kernel_rfl
theorem S_spec_l11Ref (a0 : DAtom) {r : Bool} (h : P_spec_l11Ref a0 = some r) : Ev (fun n => F_spec_l11Ref n a0) r := by
  rw [P_spec_l11Ref] at h
  refine Ev.of_eq ?_ (fun n => F_spec_l11Ref_eq n a0)
  exact (Ev.ofBif h (fun h => (Ev.ofBind h fun y1 h => (Ev.ofSome h))) (fun h => (Ev.ofSome h)))
theorem hcs_spec_l11Ref : ∀ x ∈ cs_spec_l11Ref, CtrOk Try.prog x := (conOf_cons ok_spec_GoodAtom conOf_nil)
theorem ok_spec_l11Ref : CtrOk Try.prog c_spec_l11Ref := by
  refine ctr_of_run (c := c_spec_l11Ref) (by kernel_rfl : Try.prog.funcs[47]? = some Try.f47) (code := Try.f47.body.getD .skip) (by kernel_rfl) (by kernel_rfl) (by kernel_rfl) (A := A_spec_l11Ref) (I := In_spec_l11Ref) hcs_spec_l11Ref ?_
  rintro ⟨a0, u⟩ y hy
  exact (S_spec_l11Ref a0 hy).get

/-! ## spec.l1CmpNum (66) -/
def T_spec_l1CmpNum (a0 : Int) (a1 : Int) : Int :=
  bif decide (a0 < a1) then
    (-1)
  else
    bif decide (a1 < a0) then
      1
    else
      0
noncomputable def c_spec_l1CmpNum : Ctr := ⟨66, [I64, I64], [I64], fun x => some (T_spec_l1CmpNum x.1 x.2.1)⟩
def A_spec_l1CmpNum : List (List Nat × Ann) := []
def In_spec_l1CmpNum : List (List Nat × Nat) := []
noncomputable def cs_spec_l1CmpNum : List Ctr := []
noncomputable def F_spec_l1CmpNum (n : Nat) (a0 : Int) (a1 : Int) : Option Int := run Try.prog A_spec_l1CmpNum In_spec_l1CmpNum (conOf cs_spec_l1CmpNum) Try.f66 (Try.f66.body.getD .skip) (packT [I64]) n (argsV [I64, I64] (a0, a1, ()))
theorem F_spec_l1CmpNum_eq (n : Nat) (a0 : Int) (a1 : Int) : F_spec_l1CmpNum n a0 a1 =
    bif decide (a0 < a1) then
      some (-1)
    else
      bif decide (a1 < a0) then
        some 1
      else
        some 0 := by kernel_rfl
theorem S_spec_l1CmpNum (n : Nat) (a0 : Int) (a1 : Int) : F_spec_l1CmpNum n a0 a1 = some (T_spec_l1CmpNum a0 a1) := (F_spec_l1CmpNum_eq n a0 a1).trans (cond_some rfl (cond_some rfl rfl))
theorem hcs_spec_l1CmpNum : ∀ x ∈ cs_spec_l1CmpNum, CtrOk Try.prog x := conOf_nil
theorem ok_spec_l1CmpNum : CtrOk Try.prog c_spec_l1CmpNum := by
  refine ctr_of_run (c := c_spec_l1CmpNum) (by kernel_rfl : Try.prog.funcs[66]? = some Try.f66) (code := Try.f66.body.getD .skip) (by kernel_rfl) (by kernel_rfl) (by kernel_rfl) (A := A_spec_l1CmpNum) (I := In_spec_l1CmpNum) hcs_spec_l1CmpNum ?_
  rintro ⟨a0, a1, u⟩ y hy
  exact ⟨0, (S_spec_l1CmpNum 0 a0 a1).trans hy⟩

/-! ## spec.l1CmpText (26) -/
noncomputable def P_spec_l1CmpText_0_2 (x1 : (List Int)) (x2 : (List Int)) : List Int → Nat → Option Int
  | [], k =>
      some (T_spec_l1CmpNum (x1.length : Int) (x2.length : Int))
  | e :: rest, k =>
      bif decide ((k : Int) < (x2.length : Int)) then
        bif inB (k : Int) x2.length then
          bif !decide (e = rd x2 (k : Int) 0) then
            bif inB (k : Int) x2.length then
              some (T_spec_l1CmpNum (IntKind.wrap .i64 (e)) (IntKind.wrap .i64 (rd x2 (k : Int) 0)))
            else none
          else
            P_spec_l1CmpText_0_2 x1 x2 rest (k + 1)
        else none
      else
        some (T_spec_l1CmpNum (x1.length : Int) (x2.length : Int))
noncomputable def P_spec_l1CmpText (a0 : (List Int)) (a1 : (List Int)) : Option Int :=
  lenOk a0 (P_spec_l1CmpText_0_2 a0 a1 a0 0)
noncomputable def c_spec_l1CmpText : Ctr := ⟨26, [.str, .str], [I64], fun x => P_spec_l1CmpText x.1 x.2.1⟩
def A_spec_l1CmpText : List (List Nat × Ann) := [([0, 2], [.keep 0 0, .keep 0 1, .keep 0 5])]
def In_spec_l1CmpText : List (List Nat × Nat) := []
noncomputable def cs_spec_l1CmpText : List Ctr := [c_spec_l1CmpNum]
noncomputable def F_spec_l1CmpText (n : Nat) (a0 : (List Int)) (a1 : (List Int)) : Option Int := run Try.prog A_spec_l1CmpText In_spec_l1CmpText (conOf cs_spec_l1CmpText) Try.f26 (Try.f26.body.getD .skip) (packT [I64]) n (argsV [.str, .str] (a0, a1, ()))
noncomputable abbrev L_spec_l1CmpText_0_2 (n : Nat) (x1 : (List Int)) (x2 : (List Int)) (x3 : Int) : Option Int := lam Try.prog A_spec_l1CmpText In_spec_l1CmpText (conOf cs_spec_l1CmpText) Try.f26 (Try.f26.body.getD .skip) (packT [I64]) n [0, 2] [.d .str x1, .d .str x2, .d I64 x3]
theorem F_spec_l1CmpText_eq (n : Nat) (a0 : (List Int)) (a1 : (List Int)) : F_spec_l1CmpText n a0 a1 =
    L_spec_l1CmpText_0_2 n a0 a1 0 := by kernel_rfl
theorem L_spec_l1CmpText_0_2_eq (n : Nat) (x1 : (List Int)) (x2 : (List Int)) (x3 : Int) : L_spec_l1CmpText_0_2 (n + 1) x1 x2 x3 =
    bif decide (x3 < (x1.length : Int)) then
      bif decide (x3 < (x2.length : Int)) then
        bif inB x3 x1.length then
          bif inB x3 x2.length then
            bif !decide (rd x1 x3 0 = rd x2 x3 0) then
              bif inB x3 x1.length then
                bif inB x3 x2.length then
                  some (T_spec_l1CmpNum (IntKind.wrap .i64 (rd x1 x3 0)) (IntKind.wrap .i64 (rd x2 x3 0)))
                else none
              else none
            else
              L_spec_l1CmpText_0_2 n x1 x2 (IntKind.wrap .i64 (x3 + 1))
          else none
        else none
      else
        some (T_spec_l1CmpNum (x1.length : Int) (x2.length : Int))
    else
      some (T_spec_l1CmpNum (x1.length : Int) (x2.length : Int)) := by kernel_rfl
theorem S_spec_l1CmpText_0_2 {x1 : (List Int)} {x2 : (List Int)} (hl : x1.length ≤ maxLen) : ∀ (rest : List Int) (k : Nat) (r : Int), rest = x1.drop k → P_spec_l1CmpText_0_2 x1 x2 rest k = some r → Ev (fun n => L_spec_l1CmpText_0_2 n x1 x2 (k : Int)) r := by
  intro rest
  induction rest with
  | nil =>
    intro k r hr h
    have hk := drop_nil hr
    rw [P_spec_l1CmpText_0_2] at h
    refine Ev.step ?_ (fun n => L_spec_l1CmpText_0_2_eq n x1 x2 (k : Int))
    rw [show decide ((k : Int) < (x1.length : Int)) = false from decide_eq_false (by omega)]
    exact Ev.neg rfl (Ev.ofSome h)
  | cons e rest ih =>
    intro k r hr h
    obtain ⟨hk, hx, hr2⟩ := drop_cons (d := 0) hr
    have hw := wrap_succ hl hk
    have ih2 : ∀ (r : Int), P_spec_l1CmpText_0_2 x1 x2 rest (k + 1) = some r → Ev (fun n => L_spec_l1CmpText_0_2 n x1 x2 (IntKind.wrap .i64 ((k : Int) + 1))) r := by
      intro r h; rw [hw]; exact ih (k + 1) r hr2 h
    rw [P_spec_l1CmpText_0_2] at h
    refine Ev.step ?_ (fun n => L_spec_l1CmpText_0_2_eq n x1 x2 (k : Int))
    rw [show decide ((k : Int) < (x1.length : Int)) = true from decide_eq_true (by omega), inB_nat2 hk, hx]
    exact Ev.pos rfl (Ev.ofBif h (fun h => (Ev.pos rfl (Ev.ofBif h (fun h => (Ev.ofBif h (fun h => (Ev.pos rfl (Ev.ofBif h (fun h => (Ev.ofSome h)) (fun h => (Ev.ofNone h))))) (fun h => (ih2  _ h)))) (fun h => (Ev.ofNone h))))) (fun h => (Ev.ofSome h)))
theorem S_spec_l1CmpText (a0 : (List Int)) (a1 : (List Int)) {r : Int} (h : P_spec_l1CmpText a0 a1 = some r) : Ev (fun n => F_spec_l1CmpText n a0 a1) r := by
  rw [P_spec_l1CmpText] at h
  refine Ev.of_eq ?_ (fun n => F_spec_l1CmpText_eq n a0 a1)
  exact (Ev.ofLen h fun hl h => S_spec_l1CmpText_0_2 hl _ (0 : Nat) _ rfl h)
theorem hcs_spec_l1CmpText : ∀ x ∈ cs_spec_l1CmpText, CtrOk Try.prog x := (conOf_cons ok_spec_l1CmpNum conOf_nil)
theorem ok_spec_l1CmpText : CtrOk Try.prog c_spec_l1CmpText := by
  refine ctr_of_run (c := c_spec_l1CmpText) (by kernel_rfl : Try.prog.funcs[26]? = some Try.f26) (code := Try.f26.body.getD .skip) (by kernel_rfl) (by kernel_rfl) (by kernel_rfl) (A := A_spec_l1CmpText) (I := In_spec_l1CmpText) hcs_spec_l1CmpText ?_
  rintro ⟨a0, a1, u⟩ y hy
  exact (S_spec_l1CmpText a0 a1 hy).get

/-! ## spec.l1Cmp (56) -/
noncomputable def P_spec_l1Cmp (a0 : DAtom) (a1 : DAtom) : Option Int :=
  bif !decide (T_spec_l1CmpNum a0.1 a1.1 = 0) then
    some (T_spec_l1CmpNum a0.1 a1.1)
  else
    bif !decide (T_spec_l1CmpNum a0.2.1 a1.2.1 = 0) then
      some (T_spec_l1CmpNum a0.2.1 a1.2.1)
    else
      Option.bind (P_spec_l1CmpText a0.2.2.2 a1.2.2.2) fun (y1 : Int) =>
      bif !decide (y1 = 0) then
        some y1
      else
        Option.bind (P_spec_l1CmpText a0.2.2.1 a1.2.2.1) fun (y2 : Int) =>
        some y2
noncomputable def c_spec_l1Cmp : Ctr := ⟨56, [TyAtom, TyAtom], [I64], fun x => P_spec_l1Cmp x.1 x.2.1⟩
def A_spec_l1Cmp : List (List Nat × Ann) := []
def In_spec_l1Cmp : List (List Nat × Nat) := []
noncomputable def cs_spec_l1Cmp : List Ctr := [c_spec_l1CmpNum, c_spec_l1CmpText]
noncomputable def F_spec_l1Cmp (n : Nat) (a0 : DAtom) (a1 : DAtom) : Option Int := run Try.prog A_spec_l1Cmp In_spec_l1Cmp (conOf cs_spec_l1Cmp) Try.f56 (Try.f56.body.getD .skip) (packT [I64]) n (argsV [TyAtom, TyAtom] (a0, a1, ()))
theorem F_spec_l1Cmp_eq (n : Nat) (a0 : DAtom) (a1 : DAtom) : F_spec_l1Cmp n a0 a1 =
    bif !decide (T_spec_l1CmpNum a0.1 a1.1 = 0) then
      some (T_spec_l1CmpNum a0.1 a1.1)
    else
      bif !decide (T_spec_l1CmpNum a0.2.1 a1.2.1 = 0) then
        some (T_spec_l1CmpNum a0.2.1 a1.2.1)
      else
        Option.bind (P_spec_l1CmpText a0.2.2.2 a1.2.2.2) fun (y1 : Int) =>
        bif !decide (y1 = 0) then
          some y1
        else
          Option.bind (P_spec_l1CmpText a0.2.2.1 a1.2.2.1) fun (y2 : Int) =>
          some y2 := by kernel_rfl
theorem S_spec_l1Cmp (a0 : DAtom) (a1 : DAtom) {r : Int} (h : P_spec_l1Cmp a0 a1 = some r) : Ev (fun n => F_spec_l1Cmp n a0 a1) r := by
  rw [P_spec_l1Cmp] at h
  refine Ev.of_eq ?_ (fun n => F_spec_l1Cmp_eq n a0 a1)
  exact (Ev.ofBif h (fun h => (Ev.ofSome h)) (fun h => (Ev.ofBif h (fun h => (Ev.ofSome h)) (fun h => (Ev.ofBind h fun y1 h => (Ev.ofBif h (fun h => (Ev.ofSome h)) (fun h => (Ev.ofBind h fun y2 h => (Ev.ofSome h)))))))))
theorem hcs_spec_l1Cmp : ∀ x ∈ cs_spec_l1Cmp, CtrOk Try.prog x := (conOf_cons ok_spec_l1CmpNum (conOf_cons ok_spec_l1CmpText conOf_nil))
theorem ok_spec_l1Cmp : CtrOk Try.prog c_spec_l1Cmp := by
  refine ctr_of_run (c := c_spec_l1Cmp) (by kernel_rfl : Try.prog.funcs[56]? = some Try.f56) (code := Try.f56.body.getD .skip) (by kernel_rfl) (by kernel_rfl) (by kernel_rfl) (A := A_spec_l1Cmp) (I := In_spec_l1Cmp) hcs_spec_l1Cmp ?_
  rintro ⟨a0, a1, u⟩ y hy
  exact (S_spec_l1Cmp a0 a1 hy).get

/-! ## spec.GoodValue (81) -/
noncomputable def P_spec_GoodValue_0_19 (x4 : DValue) : List (List Int) → Nat → Option Bool
  | [], k =>
      some true
  | e :: rest, k =>
      Option.bind (P_spec_GoodName (e)) fun (y4 : Bool) =>
      bif !(y4) then
        some false
      else
        bif decide ((0 : Int) < (k : Int)) then
          bif inB (IntKind.wrap .i64 ((k : Int) - 1)) x4.2.2.2.length then
            Option.bind (P_spec_l1CmpText (rd x4.2.2.2 (IntKind.wrap .i64 ((k : Int) - 1)) (Ty.dflt .str)) (e)) fun (y5 : Int) =>
            bif decide ((0 : Int) ≤ y5) then
              some false
            else
              P_spec_GoodValue_0_19 x4 rest (k + 1)
          else none
        else
          P_spec_GoodValue_0_19 x4 rest (k + 1)
noncomputable def P_spec_GoodValue_0_9 (x4 : DValue) : List DAtom → Nat → Option Bool
  | [], k =>
      bif decide (x4.1 = 2) then
        some (decide ((x4.2.2.2.length : Int) = 0))
      else
        bif !decide ((x4.2.2.2.length : Int) = (x4.2.2.1.length : Int)) then
          some false
        else
          lenOk x4.2.2.2 (P_spec_GoodValue_0_19 x4 x4.2.2.2 0)
  | e :: rest, k =>
      Option.bind (P_spec_GoodAtom (e)) fun (y2 : Bool) =>
      bif !(y2) then
        some false
      else
        bif decide (x4.1 = 2) then
          bif decide ((0 : Int) < (k : Int)) then
            bif inB (IntKind.wrap .i64 ((k : Int) - 1)) x4.2.2.1.length then
              Option.bind (P_spec_l1Cmp (rd x4.2.2.1 (IntKind.wrap .i64 ((k : Int) - 1)) (Ty.dflt TyAtom)) (e)) fun (y3 : Int) =>
              bif decide ((0 : Int) ≤ y3) then
                some false
              else
                P_spec_GoodValue_0_9 x4 rest (k + 1)
            else none
          else
            P_spec_GoodValue_0_9 x4 rest (k + 1)
        else
          P_spec_GoodValue_0_9 x4 rest (k + 1)
noncomputable def P_spec_GoodValue_1_6 (x1 : Bool) (x2 : DValue) : Option Bool :=
  bif x1 then
    bif !@decide (x2.2.1 = (0, 0, ([] : List Int), ([] : List Int))) (Ty.decEq TyAtom x2.2.1 (0, 0, ([] : List Int), ([] : List Int))) then
      some false
    else
      bif decide ((50 : Int) < (x2.2.2.1.length : Int)) then
        some false
      else
        lenOk x2.2.2.1 (P_spec_GoodValue_0_9 x2 x2.2.2.1 0)
  else
    some false
noncomputable def P_spec_GoodValue (a0 : DValue) : Option Bool :=
  bif decide (a0.1 = 1) then
    Option.bind (P_spec_GoodAtom a0.2.1) fun (y1 : Bool) =>
    bif y1 then
      bif decide ((a0.2.2.1.length : Int) = 0) then
        some (decide ((a0.2.2.2.length : Int) = 0))
      else
        some false
    else
      some false
  else
    bif decide (a0.1 = 2) then
      P_spec_GoodValue_1_6 (decide (a0.1 = 2)) a0
    else
      P_spec_GoodValue_1_6 (decide (a0.1 = 3)) a0
noncomputable def c_spec_GoodValue : Ctr := ⟨81, [TyValue], [.bool], fun x => P_spec_GoodValue x.1⟩
def A_spec_GoodValue : List (List Nat × Ann) := [([1, 6], [.keep 0 1, .keep 0 26, .box 0 1 7]), ([0, 9], [.keep 0 1, .keep 0 40, .keep 0 41, .keep 0 42, .box 0 1 7]), ([0, 19], [.keep 0 1, .keep 0 86, .keep 0 87, .keep 0 88, .box 0 1 7])]
def In_spec_GoodValue : List (List Nat × Nat) := []
noncomputable def cs_spec_GoodValue : List Ctr := [c_spec_GoodAtom, c_spec_l1Cmp, c_spec_GoodName, c_spec_l1CmpText]
noncomputable def F_spec_GoodValue (n : Nat) (a0 : DValue) : Option Bool := run Try.prog A_spec_GoodValue In_spec_GoodValue (conOf cs_spec_GoodValue) Try.f81 (Try.f81.body.getD .skip) (packT [.bool]) n (argsV [TyValue] (a0, ()))
noncomputable abbrev L_spec_GoodValue_1_6 (n : Nat) (x1 : Bool) (x2 : DValue) : Option Bool := lam Try.prog A_spec_GoodValue In_spec_GoodValue (conOf cs_spec_GoodValue) Try.f81 (Try.f81.body.getD .skip) (packT [.bool]) n [1, 6] [.ptr 0 1 0, .d .bool x1, .agg (explode TyValue x2)]
noncomputable abbrev L_spec_GoodValue_0_9 (n : Nat) (x1 : (List DAtom)) (x2 : Int) (x3 : Int) (x4 : DValue) : Option Bool := lam Try.prog A_spec_GoodValue In_spec_GoodValue (conOf cs_spec_GoodValue) Try.f81 (Try.f81.body.getD .skip) (packT [.bool]) n [0, 9] [.ptr 0 1 0, .d (.list TyAtom) x1, .d I64 x2, .d I64 x3, .agg (explode TyValue x4)]
noncomputable abbrev L_spec_GoodValue_0_19 (n : Nat) (x1 : (List (List Int))) (x2 : Int) (x3 : Int) (x4 : DValue) : Option Bool := lam Try.prog A_spec_GoodValue In_spec_GoodValue (conOf cs_spec_GoodValue) Try.f81 (Try.f81.body.getD .skip) (packT [.bool]) n [0, 19] [.ptr 0 1 0, .d (.list .str) x1, .d I64 x2, .d I64 x3, .agg (explode TyValue x4)]
theorem F_spec_GoodValue_eq (n : Nat) (a0 : DValue) : F_spec_GoodValue n a0 =
    bif decide (a0.1 = 1) then
      Option.bind (P_spec_GoodAtom a0.2.1) fun (y1 : Bool) =>
      bif y1 then
        bif decide ((a0.2.2.1.length : Int) = 0) then
          some (decide ((a0.2.2.2.length : Int) = 0))
        else
          some false
      else
        some false
    else
      bif decide (a0.1 = 2) then
        L_spec_GoodValue_1_6 n (decide (a0.1 = 2)) a0
      else
        L_spec_GoodValue_1_6 n (decide (a0.1 = 3)) a0 := by kernel_rfl
theorem L_spec_GoodValue_1_6_eq (n : Nat) (x1 : Bool) (x2 : DValue) : L_spec_GoodValue_1_6 (n + 1) x1 x2 =
    bif x1 then
      bif !@decide (x2.2.1 = (0, 0, ([] : List Int), ([] : List Int))) (Ty.decEq TyAtom x2.2.1 (0, 0, ([] : List Int), ([] : List Int))) then
        some false
      else
        bif decide ((50 : Int) < (x2.2.2.1.length : Int)) then
          some false
        else
          L_spec_GoodValue_0_9 n x2.2.2.1 (x2.2.2.1.length : Int) 0 x2
    else
      some false := by kernel_rfl
theorem L_spec_GoodValue_0_9_eq (n : Nat) (x1 : (List DAtom)) (x2 : Int) (x3 : Int) (x4 : DValue) : L_spec_GoodValue_0_9 (n + 1) x1 x2 x3 x4 =
    bif decide (x3 < x2) then
      bif inB x3 x1.length then
        Option.bind (P_spec_GoodAtom (rd x1 x3 (Ty.dflt TyAtom))) fun (y2 : Bool) =>
        bif !(y2) then
          some false
        else
          bif decide (x4.1 = 2) then
            bif decide ((0 : Int) < x3) then
              bif inB (IntKind.wrap .i64 (x3 - 1)) x4.2.2.1.length then
                Option.bind (P_spec_l1Cmp (rd x4.2.2.1 (IntKind.wrap .i64 (x3 - 1)) (Ty.dflt TyAtom)) (rd x1 x3 (Ty.dflt TyAtom))) fun (y3 : Int) =>
                bif decide ((0 : Int) ≤ y3) then
                  some false
                else
                  L_spec_GoodValue_0_9 n x1 x2 (IntKind.wrap .i64 (x3 + 1)) x4
              else none
            else
              L_spec_GoodValue_0_9 n x1 x2 (IntKind.wrap .i64 (x3 + 1)) x4
          else
            L_spec_GoodValue_0_9 n x1 x2 (IntKind.wrap .i64 (x3 + 1)) x4
      else none
    else
      bif decide (x4.1 = 2) then
        some (decide ((x4.2.2.2.length : Int) = 0))
      else
        bif !decide ((x4.2.2.2.length : Int) = (x4.2.2.1.length : Int)) then
          some false
        else
          L_spec_GoodValue_0_19 n x4.2.2.2 (x4.2.2.2.length : Int) 0 x4 := by kernel_rfl
theorem L_spec_GoodValue_0_19_eq (n : Nat) (x1 : (List (List Int))) (x2 : Int) (x3 : Int) (x4 : DValue) : L_spec_GoodValue_0_19 (n + 1) x1 x2 x3 x4 =
    bif decide (x3 < x2) then
      bif inB x3 x1.length then
        Option.bind (P_spec_GoodName (rd x1 x3 (Ty.dflt .str))) fun (y4 : Bool) =>
        bif !(y4) then
          some false
        else
          bif decide ((0 : Int) < x3) then
            bif inB (IntKind.wrap .i64 (x3 - 1)) x4.2.2.2.length then
              Option.bind (P_spec_l1CmpText (rd x4.2.2.2 (IntKind.wrap .i64 (x3 - 1)) (Ty.dflt .str)) (rd x1 x3 (Ty.dflt .str))) fun (y5 : Int) =>
              bif decide ((0 : Int) ≤ y5) then
                some false
              else
                L_spec_GoodValue_0_19 n x1 x2 (IntKind.wrap .i64 (x3 + 1)) x4
            else none
          else
            L_spec_GoodValue_0_19 n x1 x2 (IntKind.wrap .i64 (x3 + 1)) x4
      else none
    else
      some true := by kernel_rfl
theorem S_spec_GoodValue_0_19 {x1 : (List (List Int))} {x4 : DValue} (hl : x1.length ≤ maxLen) : ∀ (rest : List (List Int)) (k : Nat) (r : Bool), rest = x1.drop k → P_spec_GoodValue_0_19 x4 rest k = some r → Ev (fun n => L_spec_GoodValue_0_19 n x1 (x1.length : Int) (k : Int) x4) r := by
  intro rest
  induction rest with
  | nil =>
    intro k r hr h
    have hk := drop_nil hr
    rw [P_spec_GoodValue_0_19] at h
    refine Ev.step ?_ (fun n => L_spec_GoodValue_0_19_eq n x1 (x1.length : Int) (k : Int) x4)
    rw [show decide ((k : Int) < (x1.length : Int)) = false from decide_eq_false (by omega)]
    exact Ev.neg rfl (Ev.ofSome h)
  | cons e rest ih =>
    intro k r hr h
    obtain ⟨hk, hx, hr2⟩ := drop_cons (d := (Ty.dflt .str)) hr
    have hw := wrap_succ hl hk
    have ih2 : ∀ (r : Bool), P_spec_GoodValue_0_19 x4 rest (k + 1) = some r → Ev (fun n => L_spec_GoodValue_0_19 n x1 (x1.length : Int) (IntKind.wrap .i64 ((k : Int) + 1)) x4) r := by
      intro r h; rw [hw]; exact ih (k + 1) r hr2 h
    rw [P_spec_GoodValue_0_19] at h
    refine Ev.step ?_ (fun n => L_spec_GoodValue_0_19_eq n x1 (x1.length : Int) (k : Int) x4)
    rw [show decide ((k : Int) < (x1.length : Int)) = true from decide_eq_true (by omega), inB_nat2 hk, hx]
    exact Ev.pos rfl (Ev.pos rfl (Ev.ofBind h fun y4 h => (Ev.ofBif h (fun h => (Ev.ofSome h)) (fun h => (Ev.ofBif h (fun h => (Ev.ofBif h (fun h => (Ev.ofBind h fun y5 h => (Ev.ofBif h (fun h => (Ev.ofSome h)) (fun h => (ih2  _ h))))) (fun h => (Ev.ofNone h)))) (fun h => (ih2  _ h)))))))
theorem S_spec_GoodValue_0_9 {x1 : (List DAtom)} {x4 : DValue} (hl : x1.length ≤ maxLen) : ∀ (rest : List DAtom) (k : Nat) (r : Bool), rest = x1.drop k → P_spec_GoodValue_0_9 x4 rest k = some r → Ev (fun n => L_spec_GoodValue_0_9 n x1 (x1.length : Int) (k : Int) x4) r := by
  intro rest
  induction rest with
  | nil =>
    intro k r hr h
    have hk := drop_nil hr
    rw [P_spec_GoodValue_0_9] at h
    refine Ev.step ?_ (fun n => L_spec_GoodValue_0_9_eq n x1 (x1.length : Int) (k : Int) x4)
    rw [show decide ((k : Int) < (x1.length : Int)) = false from decide_eq_false (by omega)]
    exact Ev.neg rfl (Ev.ofBif h (fun h => (Ev.ofSome h)) (fun h => (Ev.ofBif h (fun h => (Ev.ofSome h)) (fun h => (Ev.ofLen h fun hl h => S_spec_GoodValue_0_19 hl _ (0 : Nat) _ rfl h)))))
  | cons e rest ih =>
    intro k r hr h
    obtain ⟨hk, hx, hr2⟩ := drop_cons (d := (Ty.dflt TyAtom)) hr
    have hw := wrap_succ hl hk
    have ih2 : ∀ (r : Bool), P_spec_GoodValue_0_9 x4 rest (k + 1) = some r → Ev (fun n => L_spec_GoodValue_0_9 n x1 (x1.length : Int) (IntKind.wrap .i64 ((k : Int) + 1)) x4) r := by
      intro r h; rw [hw]; exact ih (k + 1) r hr2 h
    rw [P_spec_GoodValue_0_9] at h
    refine Ev.step ?_ (fun n => L_spec_GoodValue_0_9_eq n x1 (x1.length : Int) (k : Int) x4)
    rw [show decide ((k : Int) < (x1.length : Int)) = true from decide_eq_true (by omega), inB_nat2 hk, hx]
    exact Ev.pos rfl (Ev.pos rfl (Ev.ofBind h fun y2 h => (Ev.ofBif h (fun h => (Ev.ofSome h)) (fun h => (Ev.ofBif h (fun h => (Ev.ofBif h (fun h => (Ev.ofBif h (fun h => (Ev.ofBind h fun y3 h => (Ev.ofBif h (fun h => (Ev.ofSome h)) (fun h => (ih2  _ h))))) (fun h => (Ev.ofNone h)))) (fun h => (ih2  _ h)))) (fun h => (ih2  _ h)))))))
theorem S_spec_GoodValue_1_6 {x1 : Bool} {x2 : DValue} {r : Bool} (h : P_spec_GoodValue_1_6 x1 x2 = some r) : Ev (fun n => L_spec_GoodValue_1_6 n x1 x2) r := by
  rw [P_spec_GoodValue_1_6] at h
  refine Ev.step ?_ (fun n => L_spec_GoodValue_1_6_eq n x1 x2)
  exact (Ev.ofBif h (fun h => (Ev.ofBif h (fun h => (Ev.ofSome h)) (fun h => (Ev.ofBif h (fun h => (Ev.ofSome h)) (fun h => (Ev.ofLen h fun hl h => S_spec_GoodValue_0_9 hl _ (0 : Nat) _ rfl h)))))) (fun h => (Ev.ofSome h)))
theorem S_spec_GoodValue (a0 : DValue) {r : Bool} (h : P_spec_GoodValue a0 = some r) : Ev (fun n => F_spec_GoodValue n a0) r := by
  rw [P_spec_GoodValue] at h
  refine Ev.of_eq ?_ (fun n => F_spec_GoodValue_eq n a0)
  exact (Ev.ofBif h (fun h => (Ev.ofBind h fun y1 h => (Ev.ofBif h (fun h => (Ev.ofBif h (fun h => (Ev.ofSome h)) (fun h => (Ev.ofSome h)))) (fun h => (Ev.ofSome h))))) (fun h => (Ev.ofBif h (fun h => (S_spec_GoodValue_1_6 h)) (fun h => (S_spec_GoodValue_1_6 h)))))
theorem hcs_spec_GoodValue : ∀ x ∈ cs_spec_GoodValue, CtrOk Try.prog x := (conOf_cons ok_spec_GoodAtom (conOf_cons ok_spec_l1Cmp (conOf_cons ok_spec_GoodName (conOf_cons ok_spec_l1CmpText conOf_nil))))
theorem ok_spec_GoodValue : CtrOk Try.prog c_spec_GoodValue := by
  refine ctr_of_run (c := c_spec_GoodValue) (by kernel_rfl : Try.prog.funcs[81]? = some Try.f81) (code := Try.f81.body.getD .skip) (by kernel_rfl) (by kernel_rfl) (by kernel_rfl) (A := A_spec_GoodValue) (I := In_spec_GoodValue) hcs_spec_GoodValue ?_
  rintro ⟨a0, u⟩ y hy
  exact (S_spec_GoodValue a0 hy).get

/-! ## spec.l11Fields (48) -/
noncomputable def P_spec_l11Fields_0_4 (x1 : (List (List Int))) (x2 : (List DValue)) : List (List Int) → Nat → Option Bool
  | [], k =>
      some true
  | e :: rest, k =>
      Option.bind (P_spec_GoodName (e)) fun (y1 : Bool) =>
      bif !(y1) then
        some false
      else
        bif decide ((0 : Int) < (k : Int)) then
          bif inB (IntKind.wrap .i64 ((k : Int) - 1)) x1.length then
            Option.bind (P_spec_l1CmpText (rd x1 (IntKind.wrap .i64 ((k : Int) - 1)) (Ty.dflt .str)) (e)) fun (y2 : Int) =>
            bif decide ((0 : Int) ≤ y2) then
              some false
            else
              bif inB (k : Int) x2.length then
                Option.bind (P_spec_GoodValue (rd x2 (k : Int) (Ty.dflt TyValue))) fun (y3 : Bool) =>
                bif !(y3) then
                  some false
                else
                  bif inB (k : Int) x2.length then
                    bif decide ((rd x2 (k : Int) (Ty.dflt TyValue)).1 = 3) then
                      some false
                    else
                      P_spec_l11Fields_0_4 x1 x2 rest (k + 1)
                  else none
              else none
          else none
        else
          bif inB (k : Int) x2.length then
            Option.bind (P_spec_GoodValue (rd x2 (k : Int) (Ty.dflt TyValue))) fun (y4 : Bool) =>
            bif !(y4) then
              some false
            else
              bif inB (k : Int) x2.length then
                bif decide ((rd x2 (k : Int) (Ty.dflt TyValue)).1 = 3) then
                  some false
                else
                  P_spec_l11Fields_0_4 x1 x2 rest (k + 1)
              else none
          else none
noncomputable def P_spec_l11Fields (a0 : (List (List Int))) (a1 : (List DValue)) : Option Bool :=
  bif decide ((20 : Int) < (a0.length : Int)) then
    some false
  else
    bif !decide ((a1.length : Int) = (a0.length : Int)) then
      some false
    else
      lenOk a0 (P_spec_l11Fields_0_4 a0 a1 a0 0)
noncomputable def c_spec_l11Fields : Ctr := ⟨48, [(.list .str), (.list TyValue)], [.bool], fun x => P_spec_l11Fields x.1 x.2.1⟩
def A_spec_l11Fields : List (List Nat × Ann) := [([0, 4], [.keep 0 0, .keep 0 1, .keep 0 17, .keep 0 18, .keep 0 19])]
def In_spec_l11Fields : List (List Nat × Nat) := []
noncomputable def cs_spec_l11Fields : List Ctr := [c_spec_GoodName, c_spec_l1CmpText, c_spec_GoodValue]
noncomputable def F_spec_l11Fields (n : Nat) (a0 : (List (List Int))) (a1 : (List DValue)) : Option Bool := run Try.prog A_spec_l11Fields In_spec_l11Fields (conOf cs_spec_l11Fields) Try.f48 (Try.f48.body.getD .skip) (packT [.bool]) n (argsV [(.list .str), (.list TyValue)] (a0, a1, ()))
noncomputable abbrev L_spec_l11Fields_0_4 (n : Nat) (x1 : (List (List Int))) (x2 : (List DValue)) (x3 : (List (List Int))) (x4 : Int) (x5 : Int) : Option Bool := lam Try.prog A_spec_l11Fields In_spec_l11Fields (conOf cs_spec_l11Fields) Try.f48 (Try.f48.body.getD .skip) (packT [.bool]) n [0, 4] [.d (.list .str) x1, .d (.list TyValue) x2, .d (.list .str) x3, .d I64 x4, .d I64 x5]
theorem F_spec_l11Fields_eq (n : Nat) (a0 : (List (List Int))) (a1 : (List DValue)) : F_spec_l11Fields n a0 a1 =
    bif decide ((20 : Int) < (a0.length : Int)) then
      some false
    else
      bif !decide ((a1.length : Int) = (a0.length : Int)) then
        some false
      else
        L_spec_l11Fields_0_4 n a0 a1 a0 (a0.length : Int) 0 := by kernel_rfl
theorem L_spec_l11Fields_0_4_eq (n : Nat) (x1 : (List (List Int))) (x2 : (List DValue)) (x3 : (List (List Int))) (x4 : Int) (x5 : Int) : L_spec_l11Fields_0_4 (n + 1) x1 x2 x3 x4 x5 =
    bif decide (x5 < x4) then
      bif inB x5 x3.length then
        Option.bind (P_spec_GoodName (rd x3 x5 (Ty.dflt .str))) fun (y1 : Bool) =>
        bif !(y1) then
          some false
        else
          bif decide ((0 : Int) < x5) then
            bif inB (IntKind.wrap .i64 (x5 - 1)) x1.length then
              Option.bind (P_spec_l1CmpText (rd x1 (IntKind.wrap .i64 (x5 - 1)) (Ty.dflt .str)) (rd x3 x5 (Ty.dflt .str))) fun (y2 : Int) =>
              bif decide ((0 : Int) ≤ y2) then
                some false
              else
                bif inB x5 x2.length then
                  Option.bind (P_spec_GoodValue (rd x2 x5 (Ty.dflt TyValue))) fun (y3 : Bool) =>
                  bif !(y3) then
                    some false
                  else
                    bif inB x5 x2.length then
                      bif decide ((rd x2 x5 (Ty.dflt TyValue)).1 = 3) then
                        some false
                      else
                        L_spec_l11Fields_0_4 n x1 x2 x3 x4 (IntKind.wrap .i64 (x5 + 1))
                    else none
                else none
            else none
          else
            bif inB x5 x2.length then
              Option.bind (P_spec_GoodValue (rd x2 x5 (Ty.dflt TyValue))) fun (y4 : Bool) =>
              bif !(y4) then
                some false
              else
                bif inB x5 x2.length then
                  bif decide ((rd x2 x5 (Ty.dflt TyValue)).1 = 3) then
                    some false
                  else
                    L_spec_l11Fields_0_4 n x1 x2 x3 x4 (IntKind.wrap .i64 (x5 + 1))
                else none
            else none
      else none
    else
      some true := by kernel_rfl
theorem S_spec_l11Fields_0_4 {x1 : (List (List Int))} {x2 : (List DValue)} (hl : x1.length ≤ maxLen) : ∀ (rest : List (List Int)) (k : Nat) (r : Bool), rest = x1.drop k → P_spec_l11Fields_0_4 x1 x2 rest k = some r → Ev (fun n => L_spec_l11Fields_0_4 n x1 x2 x1 (x1.length : Int) (k : Int)) r := by
  intro rest
  induction rest with
  | nil =>
    intro k r hr h
    have hk := drop_nil hr
    rw [P_spec_l11Fields_0_4] at h
    refine Ev.step ?_ (fun n => L_spec_l11Fields_0_4_eq n x1 x2 x1 (x1.length : Int) (k : Int))
    rw [show decide ((k : Int) < (x1.length : Int)) = false from decide_eq_false (by omega)]
    exact Ev.neg rfl (Ev.ofSome h)
  | cons e rest ih =>
    intro k r hr h
    obtain ⟨hk, hx, hr2⟩ := drop_cons (d := (Ty.dflt .str)) hr
    have hw := wrap_succ hl hk
    have ih2 : ∀ (r : Bool), P_spec_l11Fields_0_4 x1 x2 rest (k + 1) = some r → Ev (fun n => L_spec_l11Fields_0_4 n x1 x2 x1 (x1.length : Int) (IntKind.wrap .i64 ((k : Int) + 1))) r := by
      intro r h; rw [hw]; exact ih (k + 1) r hr2 h
    rw [P_spec_l11Fields_0_4] at h
    refine Ev.step ?_ (fun n => L_spec_l11Fields_0_4_eq n x1 x2 x1 (x1.length : Int) (k : Int))
    rw [show decide ((k : Int) < (x1.length : Int)) = true from decide_eq_true (by omega), inB_nat2 hk, hx]
    exact Ev.pos rfl (Ev.pos rfl (Ev.ofBind h fun y1 h => (Ev.ofBif h (fun h => (Ev.ofSome h)) (fun h => (Ev.ofBif h (fun h => (Ev.ofBif h (fun h => (Ev.ofBind h fun y2 h => (Ev.ofBif h (fun h => (Ev.ofSome h)) (fun h => (Ev.ofBif h (fun h => (Ev.ofBind h fun y3 h => (Ev.ofBif h (fun h => (Ev.ofSome h)) (fun h => (Ev.ofBif h (fun h => (Ev.ofBif h (fun h => (Ev.ofSome h)) (fun h => (ih2  _ h)))) (fun h => (Ev.ofNone h))))))) (fun h => (Ev.ofNone h))))))) (fun h => (Ev.ofNone h)))) (fun h => (Ev.ofBif h (fun h => (Ev.ofBind h fun y4 h => (Ev.ofBif h (fun h => (Ev.ofSome h)) (fun h => (Ev.ofBif h (fun h => (Ev.ofBif h (fun h => (Ev.ofSome h)) (fun h => (ih2  _ h)))) (fun h => (Ev.ofNone h))))))) (fun h => (Ev.ofNone h)))))))))
theorem S_spec_l11Fields (a0 : (List (List Int))) (a1 : (List DValue)) {r : Bool} (h : P_spec_l11Fields a0 a1 = some r) : Ev (fun n => F_spec_l11Fields n a0 a1) r := by
  rw [P_spec_l11Fields] at h
  refine Ev.of_eq ?_ (fun n => F_spec_l11Fields_eq n a0 a1)
  exact (Ev.ofBif h (fun h => (Ev.ofSome h)) (fun h => (Ev.ofBif h (fun h => (Ev.ofSome h)) (fun h => (Ev.ofLen h fun hl h => S_spec_l11Fields_0_4 hl _ (0 : Nat) _ rfl h)))))
theorem hcs_spec_l11Fields : ∀ x ∈ cs_spec_l11Fields, CtrOk Try.prog x := (conOf_cons ok_spec_GoodName (conOf_cons ok_spec_l1CmpText (conOf_cons ok_spec_GoodValue conOf_nil)))
theorem ok_spec_l11Fields : CtrOk Try.prog c_spec_l11Fields := by
  refine ctr_of_run (c := c_spec_l11Fields) (by kernel_rfl : Try.prog.funcs[48]? = some Try.f48) (code := Try.f48.body.getD .skip) (by kernel_rfl) (by kernel_rfl) (by kernel_rfl) (A := A_spec_l11Fields) (I := In_spec_l11Fields) hcs_spec_l11Fields ?_
  rintro ⟨a0, a1, u⟩ y hy
  exact (S_spec_l11Fields a0 a1 hy).get

/-! ## spec.GoodRequest (12) -/
noncomputable def P_spec_GoodRequest (a0 : DRequest) : Option Bool :=
  Option.bind (P_spec_l11Ref a0.1) fun (y1 : Bool) =>
  bif y1 then
    Option.bind (P_spec_l11Ref a0.2.1) fun (y2 : Bool) =>
    bif y2 then
      Option.bind (P_spec_l11Ref a0.2.2.1) fun (y3 : Bool) =>
      bif y3 then
        Option.bind (P_spec_l11Fields a0.2.2.2.1 a0.2.2.2.2) fun (y4 : Bool) =>
        some y4
      else
        some false
    else
      some false
  else
    some false
noncomputable def c_spec_GoodRequest : Ctr := ⟨12, [TyRequest], [.bool], fun x => P_spec_GoodRequest x.1⟩
def A_spec_GoodRequest : List (List Nat × Ann) := []
def In_spec_GoodRequest : List (List Nat × Nat) := []
noncomputable def cs_spec_GoodRequest : List Ctr := [c_spec_l11Ref, c_spec_l11Fields]
noncomputable def F_spec_GoodRequest (n : Nat) (a0 : DRequest) : Option Bool := run Try.prog A_spec_GoodRequest In_spec_GoodRequest (conOf cs_spec_GoodRequest) Try.f12 (Try.f12.body.getD .skip) (packT [.bool]) n (argsV [TyRequest] (a0, ()))
theorem F_spec_GoodRequest_eq (n : Nat) (a0 : DRequest) : F_spec_GoodRequest n a0 =
    Option.bind (P_spec_l11Ref a0.1) fun (y1 : Bool) =>
    bif y1 then
      Option.bind (P_spec_l11Ref a0.2.1) fun (y2 : Bool) =>
      bif y2 then
        Option.bind (P_spec_l11Ref a0.2.2.1) fun (y3 : Bool) =>
        bif y3 then
          Option.bind (P_spec_l11Fields a0.2.2.2.1 a0.2.2.2.2) fun (y4 : Bool) =>
          some y4
        else
          some false
      else
        some false
    else
      some false := by kernel_rfl
theorem S_spec_GoodRequest (a0 : DRequest) {r : Bool} (h : P_spec_GoodRequest a0 = some r) : Ev (fun n => F_spec_GoodRequest n a0) r := by
  rw [P_spec_GoodRequest] at h
  refine Ev.of_eq ?_ (fun n => F_spec_GoodRequest_eq n a0)
  exact (Ev.ofBind h fun y1 h => (Ev.ofBif h (fun h => (Ev.ofBind h fun y2 h => (Ev.ofBif h (fun h => (Ev.ofBind h fun y3 h => (Ev.ofBif h (fun h => (Ev.ofBind h fun y4 h => (Ev.ofSome h))) (fun h => (Ev.ofSome h))))) (fun h => (Ev.ofSome h))))) (fun h => (Ev.ofSome h))))
theorem hcs_spec_GoodRequest : ∀ x ∈ cs_spec_GoodRequest, CtrOk Try.prog x := (conOf_cons ok_spec_l11Ref (conOf_cons ok_spec_l11Fields conOf_nil))
theorem ok_spec_GoodRequest : CtrOk Try.prog c_spec_GoodRequest := by
  refine ctr_of_run (c := c_spec_GoodRequest) (by kernel_rfl : Try.prog.funcs[12]? = some Try.f12) (code := Try.f12.body.getD .skip) (by kernel_rfl) (by kernel_rfl) (by kernel_rfl) (A := A_spec_GoodRequest) (I := In_spec_GoodRequest) hcs_spec_GoodRequest ?_
  rintro ⟨a0, u⟩ y hy
  exact (S_spec_GoodRequest a0 hy).get

/-! ## impl.yprinted (101) -/
noncomputable def P_impl_yprinted_0_4 : List Int → Option Bool
  | [] =>
      some true
  | e :: rest =>
      bif decide (e < 32) then
        some false
      else
        bif decide ((126 : Int) < e) then
          some false
        else
          P_impl_yprinted_0_4 rest
noncomputable def P_impl_yprinted (a0 : (List Int)) (a1 : Int) (a2 : Int) : Option Bool :=
  bif decide ((a0.length : Int) < a1) then
    some false
  else
    bif decide (a2 < (a0.length : Int)) then
      some false
    else
      lenOk a0 (P_impl_yprinted_0_4 a0)
noncomputable def c_impl_yprinted : Ctr := ⟨101, [.str, I64, I64], [.bool], fun x => P_impl_yprinted x.1 x.2.1 x.2.2.1⟩
def A_impl_yprinted : List (List Nat × Ann) := [([0, 4], [.keep 0 0, .keep 0 19, .keep 0 20])]
def In_impl_yprinted : List (List Nat × Nat) := []
noncomputable def cs_impl_yprinted : List Ctr := []
noncomputable def F_impl_yprinted (n : Nat) (a0 : (List Int)) (a1 : Int) (a2 : Int) : Option Bool := run Try.prog A_impl_yprinted In_impl_yprinted (conOf cs_impl_yprinted) Try.f101 (Try.f101.body.getD .skip) (packT [.bool]) n (argsV [.str, I64, I64] (a0, a1, a2, ()))
noncomputable abbrev L_impl_yprinted_0_4 (n : Nat) (x1 : (List Int)) (x2 : Int) (x3 : Int) : Option Bool := lam Try.prog A_impl_yprinted In_impl_yprinted (conOf cs_impl_yprinted) Try.f101 (Try.f101.body.getD .skip) (packT [.bool]) n [0, 4] [.d .str x1, .d I64 x2, .d I64 x3]
theorem F_impl_yprinted_eq (n : Nat) (a0 : (List Int)) (a1 : Int) (a2 : Int) : F_impl_yprinted n a0 a1 a2 =
    bif decide ((a0.length : Int) < a1) then
      some false
    else
      bif decide (a2 < (a0.length : Int)) then
        some false
      else
        L_impl_yprinted_0_4 n a0 (a0.length : Int) 0 := by kernel_rfl
theorem L_impl_yprinted_0_4_eq (n : Nat) (x1 : (List Int)) (x2 : Int) (x3 : Int) : L_impl_yprinted_0_4 (n + 1) x1 x2 x3 =
    bif decide (x3 < x2) then
      bif inB x3 x1.length then
        bif decide (rd x1 x3 0 < 32) then
          some false
        else
          bif inB x3 x1.length then
            bif decide ((126 : Int) < rd x1 x3 0) then
              some false
            else
              L_impl_yprinted_0_4 n x1 x2 (IntKind.wrap .i64 (x3 + 1))
          else none
      else none
    else
      some true := by kernel_rfl
theorem S_impl_yprinted_0_4 {x1 : (List Int)} (hl : x1.length ≤ maxLen) : ∀ (rest : List Int) (k : Nat) (r : Bool), rest = x1.drop k → P_impl_yprinted_0_4 rest = some r → Ev (fun n => L_impl_yprinted_0_4 n x1 (x1.length : Int) (k : Int)) r := by
  intro rest
  induction rest with
  | nil =>
    intro k r hr h
    have hk := drop_nil hr
    rw [P_impl_yprinted_0_4] at h
    refine Ev.step ?_ (fun n => L_impl_yprinted_0_4_eq n x1 (x1.length : Int) (k : Int))
    rw [show decide ((k : Int) < (x1.length : Int)) = false from decide_eq_false (by omega)]
    exact Ev.neg rfl (Ev.ofSome h)
  | cons e rest ih =>
    intro k r hr h
    obtain ⟨hk, hx, hr2⟩ := drop_cons (d := 0) hr
    have hw := wrap_succ hl hk
    have ih2 : ∀ (r : Bool), P_impl_yprinted_0_4 rest = some r → Ev (fun n => L_impl_yprinted_0_4 n x1 (x1.length : Int) (IntKind.wrap .i64 ((k : Int) + 1))) r := by
      intro r h; rw [hw]; exact ih (k + 1) r hr2 h
    rw [P_impl_yprinted_0_4] at h
    refine Ev.step ?_ (fun n => L_impl_yprinted_0_4_eq n x1 (x1.length : Int) (k : Int))
    rw [show decide ((k : Int) < (x1.length : Int)) = true from decide_eq_true (by omega), inB_nat2 hk, hx]
    exact Ev.pos rfl (Ev.pos rfl (Ev.ofBif h (fun h => (Ev.ofSome h)) (fun h => (Ev.pos rfl (Ev.ofBif h (fun h => (Ev.ofSome h)) (fun h => (ih2  _ h)))))))
theorem S_impl_yprinted (a0 : (List Int)) (a1 : Int) (a2 : Int) {r : Bool} (h : P_impl_yprinted a0 a1 a2 = some r) : Ev (fun n => F_impl_yprinted n a0 a1 a2) r := by
  rw [P_impl_yprinted] at h
  refine Ev.of_eq ?_ (fun n => F_impl_yprinted_eq n a0 a1 a2)
  exact (Ev.ofBif h (fun h => (Ev.ofSome h)) (fun h => (Ev.ofBif h (fun h => (Ev.ofSome h)) (fun h => (Ev.ofLen h fun hl h => S_impl_yprinted_0_4 hl _ (0 : Nat) _ rfl h)))))
theorem hcs_impl_yprinted : ∀ x ∈ cs_impl_yprinted, CtrOk Try.prog x := conOf_nil
theorem ok_impl_yprinted : CtrOk Try.prog c_impl_yprinted := by
  refine ctr_of_run (c := c_impl_yprinted) (by kernel_rfl : Try.prog.funcs[101]? = some Try.f101) (code := Try.f101.body.getD .skip) (by kernel_rfl) (by kernel_rfl) (by kernel_rfl) (A := A_impl_yprinted) (I := In_impl_yprinted) hcs_impl_yprinted ?_
  rintro ⟨a0, a1, a2, u⟩ y hy
  exact (S_impl_yprinted a0 a1 a2 hy).get

/-! ## impl.ydigit (73) -/
def T_impl_ydigit (a0 : Int) : Bool :=
  bif decide ((48 : Int) ≤ a0) then
    decide (a0 ≤ 57)
  else
    false
noncomputable def c_impl_ydigit : Ctr := ⟨73, [U8], [.bool], fun x => some (T_impl_ydigit x.1)⟩
def A_impl_ydigit : List (List Nat × Ann) := []
def In_impl_ydigit : List (List Nat × Nat) := []
noncomputable def cs_impl_ydigit : List Ctr := []
noncomputable def F_impl_ydigit (n : Nat) (a0 : Int) : Option Bool := run Try.prog A_impl_ydigit In_impl_ydigit (conOf cs_impl_ydigit) Try.f73 (Try.f73.body.getD .skip) (packT [.bool]) n (argsV [U8] (a0, ()))
theorem F_impl_ydigit_eq (n : Nat) (a0 : Int) : F_impl_ydigit n a0 =
    bif decide ((48 : Int) ≤ a0) then
      some (decide (a0 ≤ 57))
    else
      some false := by kernel_rfl
theorem S_impl_ydigit (n : Nat) (a0 : Int) : F_impl_ydigit n a0 = some (T_impl_ydigit a0) := (F_impl_ydigit_eq n a0).trans (cond_some rfl rfl)
theorem hcs_impl_ydigit : ∀ x ∈ cs_impl_ydigit, CtrOk Try.prog x := conOf_nil
theorem ok_impl_ydigit : CtrOk Try.prog c_impl_ydigit := by
  refine ctr_of_run (c := c_impl_ydigit) (by kernel_rfl : Try.prog.funcs[73]? = some Try.f73) (code := Try.f73.body.getD .skip) (by kernel_rfl) (by kernel_rfl) (by kernel_rfl) (A := A_impl_ydigit) (I := In_impl_ydigit) hcs_impl_ydigit ?_
  rintro ⟨a0, u⟩ y hy
  exact ⟨0, (S_impl_ydigit 0 a0).trans hy⟩

/-! ## impl.yletter (97) -/
def T_impl_yletter (a0 : Int) : Bool :=
  bif decide ((97 : Int) ≤ a0) then
    bif decide (a0 ≤ 122) then
      true
    else
      bif decide ((65 : Int) ≤ a0) then
        decide (a0 ≤ 90)
      else
        false
  else
    bif decide ((65 : Int) ≤ a0) then
      decide (a0 ≤ 90)
    else
      false
noncomputable def c_impl_yletter : Ctr := ⟨97, [U8], [.bool], fun x => some (T_impl_yletter x.1)⟩
def A_impl_yletter : List (List Nat × Ann) := []
def In_impl_yletter : List (List Nat × Nat) := []
noncomputable def cs_impl_yletter : List Ctr := []
noncomputable def F_impl_yletter (n : Nat) (a0 : Int) : Option Bool := run Try.prog A_impl_yletter In_impl_yletter (conOf cs_impl_yletter) Try.f97 (Try.f97.body.getD .skip) (packT [.bool]) n (argsV [U8] (a0, ()))
theorem F_impl_yletter_eq (n : Nat) (a0 : Int) : F_impl_yletter n a0 =
    bif decide ((97 : Int) ≤ a0) then
      bif decide (a0 ≤ 122) then
        some true
      else
        bif decide ((65 : Int) ≤ a0) then
          some (decide (a0 ≤ 90))
        else
          some false
    else
      bif decide ((65 : Int) ≤ a0) then
        some (decide (a0 ≤ 90))
      else
        some false := by kernel_rfl
theorem S_impl_yletter (n : Nat) (a0 : Int) : F_impl_yletter n a0 = some (T_impl_yletter a0) := (F_impl_yletter_eq n a0).trans (cond_some (cond_some rfl (cond_some rfl rfl)) (cond_some rfl rfl))
theorem hcs_impl_yletter : ∀ x ∈ cs_impl_yletter, CtrOk Try.prog x := conOf_nil
theorem ok_impl_yletter : CtrOk Try.prog c_impl_yletter := by
  refine ctr_of_run (c := c_impl_yletter) (by kernel_rfl : Try.prog.funcs[97]? = some Try.f97) (code := Try.f97.body.getD .skip) (by kernel_rfl) (by kernel_rfl) (by kernel_rfl) (A := A_impl_yletter) (I := In_impl_yletter) hcs_impl_yletter ?_
  rintro ⟨a0, u⟩ y hy
  exact ⟨0, (S_impl_yletter 0 a0).trans hy⟩

/-! ## impl.ywordByte (74) -/
def T_impl_ywordByte (a0 : Int) : Bool :=
  bif T_impl_yletter a0 then
    true
  else
    bif T_impl_ydigit a0 then
      true
    else
      decide (a0 = 95)
noncomputable def c_impl_ywordByte : Ctr := ⟨74, [U8], [.bool], fun x => some (T_impl_ywordByte x.1)⟩
def A_impl_ywordByte : List (List Nat × Ann) := []
def In_impl_ywordByte : List (List Nat × Nat) := []
noncomputable def cs_impl_ywordByte : List Ctr := [c_impl_yletter, c_impl_ydigit]
noncomputable def F_impl_ywordByte (n : Nat) (a0 : Int) : Option Bool := run Try.prog A_impl_ywordByte In_impl_ywordByte (conOf cs_impl_ywordByte) Try.f74 (Try.f74.body.getD .skip) (packT [.bool]) n (argsV [U8] (a0, ()))
theorem F_impl_ywordByte_eq (n : Nat) (a0 : Int) : F_impl_ywordByte n a0 =
    bif T_impl_yletter a0 then
      some true
    else
      bif T_impl_ydigit a0 then
        some true
      else
        some (decide (a0 = 95)) := by kernel_rfl
theorem S_impl_ywordByte (n : Nat) (a0 : Int) : F_impl_ywordByte n a0 = some (T_impl_ywordByte a0) := (F_impl_ywordByte_eq n a0).trans (cond_some rfl (cond_some rfl rfl))
theorem hcs_impl_ywordByte : ∀ x ∈ cs_impl_ywordByte, CtrOk Try.prog x := (conOf_cons ok_impl_yletter (conOf_cons ok_impl_ydigit conOf_nil))
theorem ok_impl_ywordByte : CtrOk Try.prog c_impl_ywordByte := by
  refine ctr_of_run (c := c_impl_ywordByte) (by kernel_rfl : Try.prog.funcs[74]? = some Try.f74) (code := Try.f74.body.getD .skip) (by kernel_rfl) (by kernel_rfl) (by kernel_rfl) (A := A_impl_ywordByte) (I := In_impl_ywordByte) hcs_impl_ywordByte ?_
  rintro ⟨a0, u⟩ y hy
  exact ⟨0, (S_impl_ywordByte 0 a0).trans hy⟩

/-! ## impl.GoodName (39) -/
noncomputable def P_impl_GoodName_0_4 : List Int → Option Bool
  | [] =>
      some true
  | e :: rest =>
      bif !(T_impl_ywordByte (e)) then
        some false
      else
        P_impl_GoodName_0_4 rest
noncomputable def P_impl_GoodName (a0 : (List Int)) : Option Bool :=
  bif decide (a0 = ([] : List Int)) then
    some false
  else
    bif decide ((30 : Int) < (a0.length : Int)) then
      some false
    else
      bif inB 0 a0.length then
        bif T_impl_ydigit (rd a0 0 0) then
          some false
        else
          lenOk a0 (P_impl_GoodName_0_4 a0)
      else none
noncomputable def c_impl_GoodName : Ctr := ⟨39, [.str], [.bool], fun x => P_impl_GoodName x.1⟩
def A_impl_GoodName : List (List Nat × Ann) := [([0, 4], [.keep 0 0, .keep 0 17, .keep 0 18])]
def In_impl_GoodName : List (List Nat × Nat) := []
noncomputable def cs_impl_GoodName : List Ctr := [c_impl_ydigit, c_impl_ywordByte]
noncomputable def F_impl_GoodName (n : Nat) (a0 : (List Int)) : Option Bool := run Try.prog A_impl_GoodName In_impl_GoodName (conOf cs_impl_GoodName) Try.f39 (Try.f39.body.getD .skip) (packT [.bool]) n (argsV [.str] (a0, ()))
noncomputable abbrev L_impl_GoodName_0_4 (n : Nat) (x1 : (List Int)) (x2 : Int) (x3 : Int) : Option Bool := lam Try.prog A_impl_GoodName In_impl_GoodName (conOf cs_impl_GoodName) Try.f39 (Try.f39.body.getD .skip) (packT [.bool]) n [0, 4] [.d .str x1, .d I64 x2, .d I64 x3]
theorem F_impl_GoodName_eq (n : Nat) (a0 : (List Int)) : F_impl_GoodName n a0 =
    bif decide (a0 = ([] : List Int)) then
      some false
    else
      bif decide ((30 : Int) < (a0.length : Int)) then
        some false
      else
        bif inB 0 a0.length then
          bif T_impl_ydigit (rd a0 0 0) then
            some false
          else
            L_impl_GoodName_0_4 n a0 (a0.length : Int) 0
        else none := by kernel_rfl
theorem L_impl_GoodName_0_4_eq (n : Nat) (x1 : (List Int)) (x2 : Int) (x3 : Int) : L_impl_GoodName_0_4 (n + 1) x1 x2 x3 =
    bif decide (x3 < x2) then
      bif inB x3 x1.length then
        bif !(T_impl_ywordByte (rd x1 x3 0)) then
          some false
        else
          L_impl_GoodName_0_4 n x1 x2 (IntKind.wrap .i64 (x3 + 1))
      else none
    else
      some true := by kernel_rfl
theorem S_impl_GoodName_0_4 {x1 : (List Int)} (hl : x1.length ≤ maxLen) : ∀ (rest : List Int) (k : Nat) (r : Bool), rest = x1.drop k → P_impl_GoodName_0_4 rest = some r → Ev (fun n => L_impl_GoodName_0_4 n x1 (x1.length : Int) (k : Int)) r := by
  intro rest
  induction rest with
  | nil =>
    intro k r hr h
    have hk := drop_nil hr
    rw [P_impl_GoodName_0_4] at h
    refine Ev.step ?_ (fun n => L_impl_GoodName_0_4_eq n x1 (x1.length : Int) (k : Int))
    rw [show decide ((k : Int) < (x1.length : Int)) = false from decide_eq_false (by omega)]
    exact Ev.neg rfl (Ev.ofSome h)
  | cons e rest ih =>
    intro k r hr h
    obtain ⟨hk, hx, hr2⟩ := drop_cons (d := 0) hr
    have hw := wrap_succ hl hk
    have ih2 : ∀ (r : Bool), P_impl_GoodName_0_4 rest = some r → Ev (fun n => L_impl_GoodName_0_4 n x1 (x1.length : Int) (IntKind.wrap .i64 ((k : Int) + 1))) r := by
      intro r h; rw [hw]; exact ih (k + 1) r hr2 h
    rw [P_impl_GoodName_0_4] at h
    refine Ev.step ?_ (fun n => L_impl_GoodName_0_4_eq n x1 (x1.length : Int) (k : Int))
    rw [show decide ((k : Int) < (x1.length : Int)) = true from decide_eq_true (by omega), inB_nat2 hk, hx]
    exact Ev.pos rfl (Ev.pos rfl (Ev.ofBif h (fun h => (Ev.ofSome h)) (fun h => (ih2  _ h))))
theorem S_impl_GoodName (a0 : (List Int)) {r : Bool} (h : P_impl_GoodName a0 = some r) : Ev (fun n => F_impl_GoodName n a0) r := by
  rw [P_impl_GoodName] at h
  refine Ev.of_eq ?_ (fun n => F_impl_GoodName_eq n a0)
  exact (Ev.ofBif h (fun h => (Ev.ofSome h)) (fun h => (Ev.ofBif h (fun h => (Ev.ofSome h)) (fun h => (Ev.ofBif h (fun h => (Ev.ofBif h (fun h => (Ev.ofSome h)) (fun h => (Ev.ofLen h fun hl h => S_impl_GoodName_0_4 hl _ (0 : Nat) _ rfl h)))) (fun h => (Ev.ofNone h)))))))
theorem hcs_impl_GoodName : ∀ x ∈ cs_impl_GoodName, CtrOk Try.prog x := (conOf_cons ok_impl_ydigit (conOf_cons ok_impl_ywordByte conOf_nil))
theorem ok_impl_GoodName : CtrOk Try.prog c_impl_GoodName := by
  refine ctr_of_run (c := c_impl_GoodName) (by kernel_rfl : Try.prog.funcs[39]? = some Try.f39) (code := Try.f39.body.getD .skip) (by kernel_rfl) (by kernel_rfl) (by kernel_rfl) (A := A_impl_GoodName) (I := In_impl_GoodName) hcs_impl_GoodName ?_
  rintro ⟨a0, u⟩ y hy
  exact (S_impl_GoodName a0 hy).get

/-! ## impl.GoodAtom (83) -/
noncomputable def P_impl_GoodAtom_1_7 (x1 : Bool) (x2 : Int) (x3 : Bool) (x4 : DAtom) : Option Bool :=
  bif x3 then
    some x1
  else
    bif decide (x2 = 3) then
      bif decide (x4.2.1 = 0) then
        bif decide (x4.2.2.2 = ([] : List Int)) then
          Option.bind (P_impl_yprinted x4.2.2.1 0 200) fun (y1 : Bool) =>
          some y1
        else
          some false
      else
        some false
    else
      bif decide (x2 = 4) then
        bif decide (x4.2.1 = 0) then
          Option.bind (P_impl_GoodName x4.2.2.2) fun (y2 : Bool) =>
          bif y2 then
            Option.bind (P_impl_yprinted x4.2.2.1 1 200) fun (y3 : Bool) =>
            some y3
          else
            some false
        else
          some false
      else
        bif decide (x2 = 6) then
          bif !(x1) then
            some false
          else
            bif decide (x4.2.1 < 0) then
              some false
            else
              bif decide (Int.tmod x4.2.1 64 ≤ 32) then
                bif decide (IntKind.wrap .i64 (Int.tdiv x4.2.1 64) < 4294967296) then
                  bif decide ((0 : Int) ≤ IntKind.wrap .i64 (32 - (Int.tmod x4.2.1 64))) then
                    bif decide (IntKind.wrap .i64 (1 * 2 ^ (min (Int.toNat (IntKind.wrap .i64 (32 - (Int.tmod x4.2.1 64)))) 64)) = 0) then none else
                    some (decide (Int.tmod (IntKind.wrap .i64 (Int.tdiv x4.2.1 64)) (IntKind.wrap .i64 (1 * 2 ^ (min (Int.toNat (IntKind.wrap .i64 (32 - (Int.tmod x4.2.1 64)))) 64))) = 0))
                  else none
                else
                  some false
              else
                some false
        else
          bif decide (x2 = 7) then
            bif x1 then
              bif decide (((-100000000000) : Int) ≤ x4.2.1) then
                some (decide (x4.2.1 ≤ 100000000000))
              else
                some false
            else
              some false
          else
            some false
noncomputable def P_impl_GoodAtom_1_2 (x1 : Bool) (x2 : DAtom) : Option Bool :=
  bif decide (x2.1 = 1) then
    bif x1 then
      bif decide (x2.2.1 = 0) then
        some true
      else
        some (decide (x2.2.1 = 1))
    else
      some false
  else
    bif decide (x2.1 = 2) then
      P_impl_GoodAtom_1_7 x1 x2.1 (decide (x2.1 = 2)) x2
    else
      P_impl_GoodAtom_1_7 x1 x2.1 (decide (x2.1 = 5)) x2
noncomputable def P_impl_GoodAtom (a0 : DAtom) : Option Bool :=
  bif decide (a0.2.2.1 = ([] : List Int)) then
    P_impl_GoodAtom_1_2 (decide (a0.2.2.2 = ([] : List Int))) a0
  else
    P_impl_GoodAtom_1_2 false a0
noncomputable def c_impl_GoodAtom : Ctr := ⟨83, [TyAtom], [.bool], fun x => P_impl_GoodAtom x.1⟩
def A_impl_GoodAtom : List (List Nat × Ann) := [([1, 2], [.keep 0 1, .keep 0 3, .box 0 1 4]), ([1, 7], [.keep 0 1, .keep 0 3, .keep 0 15, .keep 0 29, .box 0 1 4])]
def In_impl_GoodAtom : List (List Nat × Nat) := []
noncomputable def cs_impl_GoodAtom : List Ctr := [c_impl_yprinted, c_impl_GoodName]
noncomputable def F_impl_GoodAtom (n : Nat) (a0 : DAtom) : Option Bool := run Try.prog A_impl_GoodAtom In_impl_GoodAtom (conOf cs_impl_GoodAtom) Try.f83 (Try.f83.body.getD .skip) (packT [.bool]) n (argsV [TyAtom] (a0, ()))
noncomputable abbrev L_impl_GoodAtom_1_2 (n : Nat) (x1 : Bool) (x2 : DAtom) : Option Bool := lam Try.prog A_impl_GoodAtom In_impl_GoodAtom (conOf cs_impl_GoodAtom) Try.f83 (Try.f83.body.getD .skip) (packT [.bool]) n [1, 2] [.ptr 0 1 0, .d .bool x1, .agg (explode TyAtom x2)]
noncomputable abbrev L_impl_GoodAtom_1_7 (n : Nat) (x1 : Bool) (x2 : Int) (x3 : Bool) (x4 : DAtom) : Option Bool := lam Try.prog A_impl_GoodAtom In_impl_GoodAtom (conOf cs_impl_GoodAtom) Try.f83 (Try.f83.body.getD .skip) (packT [.bool]) n [1, 7] [.ptr 0 1 0, .d .bool x1, .d I64 x2, .d .bool x3, .agg (explode TyAtom x4)]
theorem F_impl_GoodAtom_eq (n : Nat) (a0 : DAtom) : F_impl_GoodAtom n a0 =
    bif decide (a0.2.2.1 = ([] : List Int)) then
      L_impl_GoodAtom_1_2 n (decide (a0.2.2.2 = ([] : List Int))) a0
    else
      L_impl_GoodAtom_1_2 n false a0 := by kernel_rfl
theorem L_impl_GoodAtom_1_2_eq (n : Nat) (x1 : Bool) (x2 : DAtom) : L_impl_GoodAtom_1_2 (n + 1) x1 x2 =
    bif decide (x2.1 = 1) then
      bif x1 then
        bif decide (x2.2.1 = 0) then
          some true
        else
          some (decide (x2.2.1 = 1))
      else
        some false
    else
      bif decide (x2.1 = 2) then
        L_impl_GoodAtom_1_7 n x1 x2.1 (decide (x2.1 = 2)) x2
      else
        L_impl_GoodAtom_1_7 n x1 x2.1 (decide (x2.1 = 5)) x2 := by kernel_rfl
theorem L_impl_GoodAtom_1_7_eq (n : Nat) (x1 : Bool) (x2 : Int) (x3 : Bool) (x4 : DAtom) : L_impl_GoodAtom_1_7 (n + 1) x1 x2 x3 x4 =
    bif x3 then
      some x1
    else
      bif decide (x2 = 3) then
        bif decide (x4.2.1 = 0) then
          bif decide (x4.2.2.2 = ([] : List Int)) then
            Option.bind (P_impl_yprinted x4.2.2.1 0 200) fun (y1 : Bool) =>
            some y1
          else
            some false
        else
          some false
      else
        bif decide (x2 = 4) then
          bif decide (x4.2.1 = 0) then
            Option.bind (P_impl_GoodName x4.2.2.2) fun (y2 : Bool) =>
            bif y2 then
              Option.bind (P_impl_yprinted x4.2.2.1 1 200) fun (y3 : Bool) =>
              some y3
            else
              some false
          else
            some false
        else
          bif decide (x2 = 6) then
            bif !(x1) then
              some false
            else
              bif decide (x4.2.1 < 0) then
                some false
              else
                bif decide (Int.tmod x4.2.1 64 ≤ 32) then
                  bif decide (IntKind.wrap .i64 (Int.tdiv x4.2.1 64) < 4294967296) then
                    bif decide ((0 : Int) ≤ IntKind.wrap .i64 (32 - (Int.tmod x4.2.1 64))) then
                      bif decide (IntKind.wrap .i64 (1 * 2 ^ (min (Int.toNat (IntKind.wrap .i64 (32 - (Int.tmod x4.2.1 64)))) 64)) = 0) then none else
                      some (decide (Int.tmod (IntKind.wrap .i64 (Int.tdiv x4.2.1 64)) (IntKind.wrap .i64 (1 * 2 ^ (min (Int.toNat (IntKind.wrap .i64 (32 - (Int.tmod x4.2.1 64)))) 64))) = 0))
                    else none
                  else
                    some false
                else
                  some false
          else
            bif decide (x2 = 7) then
              bif x1 then
                bif decide (((-100000000000) : Int) ≤ x4.2.1) then
                  some (decide (x4.2.1 ≤ 100000000000))
                else
                  some false
              else
                some false
            else
              some false := by kernel_rfl
theorem S_impl_GoodAtom_1_7 {x1 : Bool} {x2 : Int} {x3 : Bool} {x4 : DAtom} {r : Bool} (h : P_impl_GoodAtom_1_7 x1 x2 x3 x4 = some r) : Ev (fun n => L_impl_GoodAtom_1_7 n x1 x2 x3 x4) r := by
  rw [P_impl_GoodAtom_1_7] at h
  refine Ev.step ?_ (fun n => L_impl_GoodAtom_1_7_eq n x1 x2 x3 x4)
  exact (Ev.ofBif h (fun h => (Ev.ofSome h)) (fun h => (Ev.ofBif h (fun h => (Ev.ofBif h (fun h => (Ev.ofBif h (fun h => (Ev.ofBind h fun y1 h => (Ev.ofSome h))) (fun h => (Ev.ofSome h)))) (fun h => (Ev.ofSome h)))) (fun h => (Ev.ofBif h (fun h => (Ev.ofBif h (fun h => (Ev.ofBind h fun y2 h => (Ev.ofBif h (fun h => (Ev.ofBind h fun y3 h => (Ev.ofSome h))) (fun h => (Ev.ofSome h))))) (fun h => (Ev.ofSome h)))) (fun h => (Ev.ofBif h (fun h => (Ev.ofBif h (fun h => (Ev.ofSome h)) (fun h => (Ev.ofBif h (fun h => (Ev.ofSome h)) (fun h => (Ev.ofBif h (fun h => (Ev.ofBif h (fun h => (Ev.ofBif h (fun h => (Ev.ofBif h (fun h => (Ev.ofNone h)) (fun h => (Ev.ofSome h)))) (fun h => (Ev.ofNone h)))) (fun h => (Ev.ofSome h)))) (fun h => (Ev.ofSome h)))))))) (fun h => (Ev.ofBif h (fun h => (Ev.ofBif h (fun h => (Ev.ofBif h (fun h => (Ev.ofSome h)) (fun h => (Ev.ofSome h)))) (fun h => (Ev.ofSome h)))) (fun h => (Ev.ofSome h)))))))))))
theorem S_impl_GoodAtom_1_2 {x1 : Bool} {x2 : DAtom} {r : Bool} (h : P_impl_GoodAtom_1_2 x1 x2 = some r) : Ev (fun n => L_impl_GoodAtom_1_2 n x1 x2) r := by
  rw [P_impl_GoodAtom_1_2] at h
  refine Ev.step ?_ (fun n => L_impl_GoodAtom_1_2_eq n x1 x2)
  exact (Ev.ofBif h (fun h => (Ev.ofBif h (fun h => (Ev.ofBif h (fun h => (Ev.ofSome h)) (fun h => (Ev.ofSome h)))) (fun h => (Ev.ofSome h)))) (fun h => (Ev.ofBif h (fun h => (S_impl_GoodAtom_1_7 h)) (fun h => (S_impl_GoodAtom_1_7 h)))))
theorem S_impl_GoodAtom (a0 : DAtom) {r : Bool} (h : P_impl_GoodAtom a0 = some r) : Ev (fun n => F_impl_GoodAtom n a0) r := by
  rw [P_impl_GoodAtom] at h
  refine Ev.of_eq ?_ (fun n => F_impl_GoodAtom_eq n a0)
  exact (Ev.ofBif h (fun h => (S_impl_GoodAtom_1_2 h)) (fun h => (S_impl_GoodAtom_1_2 h)))
theorem hcs_impl_GoodAtom : ∀ x ∈ cs_impl_GoodAtom, CtrOk Try.prog x := (conOf_cons ok_impl_yprinted (conOf_cons ok_impl_GoodName conOf_nil))
theorem ok_impl_GoodAtom : CtrOk Try.prog c_impl_GoodAtom := by
  refine ctr_of_run (c := c_impl_GoodAtom) (by kernel_rfl : Try.prog.funcs[83]? = some Try.f83) (code := Try.f83.body.getD .skip) (by kernel_rfl) (by kernel_rfl) (by kernel_rfl) (A := A_impl_GoodAtom) (I := In_impl_GoodAtom) hcs_impl_GoodAtom ?_
  rintro ⟨a0, u⟩ y hy
  exact (S_impl_GoodAtom a0 hy).get

/-! ## impl.ygoodRef (51) -/
noncomputable def P_impl_ygoodRef (a0 : DAtom) : Option Bool :=
  bif decide (a0.1 = 4) then
    Option.bind (P_impl_GoodAtom a0) fun (y1 : Bool) =>
    some y1
  else
    some false
noncomputable def c_impl_ygoodRef : Ctr := ⟨51, [TyAtom], [.bool], fun x => P_impl_ygoodRef x.1⟩
def A_impl_ygoodRef : List (List Nat × Ann) := []
def In_impl_ygoodRef : List (List Nat × Nat) := []
noncomputable def cs_impl_ygoodRef : List Ctr := [c_impl_GoodAtom]
noncomputable def F_impl_ygoodRef (n : Nat) (a0 : DAtom) : Option Bool := run Try.prog A_impl_ygoodRef In_impl_ygoodRef (conOf cs_impl_ygoodRef) Try.f51 (Try.f51.body.getD .skip) (packT [.bool]) n (argsV [TyAtom] (a0, ()))
theorem F_impl_ygoodRef_eq (n : Nat) (a0 : DAtom) : F_impl_ygoodRef n a0 =
    bif decide (a0.1 = 4) then
      Option.bind (P_impl_GoodAtom a0) fun (y1 : Bool) =>
      some y1
    else
      some false := by kernel_rfl
theorem S_impl_ygoodRef (a0 : DAtom) {r : Bool} (h : P_impl_ygoodRef a0 = some r) : Ev (fun n => F_impl_ygoodRef n a0) r := by
  rw [P_impl_ygoodRef] at h
  refine Ev.of_eq ?_ (fun n => F_impl_ygoodRef_eq n a0)
  exact (Ev.ofBif h (fun h => (Ev.ofBind h fun y1 h => (Ev.ofSome h))) (fun h => (Ev.ofSome h)))
theorem hcs_impl_ygoodRef : ∀ x ∈ cs_impl_ygoodRef, CtrOk Try.prog x := (conOf_cons ok_impl_GoodAtom conOf_nil)
theorem ok_impl_ygoodRef : CtrOk Try.prog c_impl_ygoodRef := by
  refine ctr_of_run (c := c_impl_ygoodRef) (by kernel_rfl : Try.prog.funcs[51]? = some Try.f51) (code := Try.f51.body.getD .skip) (by kernel_rfl) (by kernel_rfl) (by kernel_rfl) (A := A_impl_ygoodRef) (I := In_impl_ygoodRef) hcs_impl_ygoodRef ?_
  rintro ⟨a0, u⟩ y hy
  exact (S_impl_ygoodRef a0 hy).get

/-! ## impl.yallNames (40) -/
noncomputable def P_impl_yallNames_0_2_1002_1001 : List (List Int) → Nat → Option Bool
  | [], k =>
      some true
  | e :: rest, k =>
      Option.bind (P_impl_GoodName (e)) fun (y1 : Bool) =>
      bif !(y1) then
        some (!decide ((0 : Int) ≤ (k : Int)))
      else
        P_impl_yallNames_0_2_1002_1001 rest (k + 1)
noncomputable def P_impl_yallNames (a0 : (List (List Int))) : Option Bool :=
  lenOk a0 (P_impl_yallNames_0_2_1002_1001 a0 0)
noncomputable def c_impl_yallNames : Ctr := ⟨40, [(.list .str)], [.bool], fun x => P_impl_yallNames x.1⟩
def A_impl_yallNames : List (List Nat × Ann) := [([0, 2, 1002, 1001], [.keep 2 0, .keep 2 1, .keep 2 7, .keep 2 8])]
def In_impl_yallNames : List (List Nat × Nat) := [([1001], 37), ([1002, 1001], 72), ([4005, 1002, 1001], 75)]
noncomputable def cs_impl_yallNames : List Ctr := [c_impl_GoodName]
noncomputable def F_impl_yallNames (n : Nat) (a0 : (List (List Int))) : Option Bool := run Try.prog A_impl_yallNames In_impl_yallNames (conOf cs_impl_yallNames) Try.f40 (Try.f40.body.getD .skip) (packT [.bool]) n (argsV [(.list .str)] (a0, ()))
noncomputable abbrev L_impl_yallNames_0_2_1002_1001 (n : Nat) (x1 : (List (List Int))) (x2 : Int) (x3 : Int) : Option Bool := lam Try.prog A_impl_yallNames In_impl_yallNames (conOf cs_impl_yallNames) Try.f40 (Try.f40.body.getD .skip) (packT [.bool]) n [0, 2, 1002, 1001] [.d (.list .str) x1, .fn 75 [], .d I64 x2, .d I64 x3]
theorem F_impl_yallNames_eq (n : Nat) (a0 : (List (List Int))) : F_impl_yallNames n a0 =
    L_impl_yallNames_0_2_1002_1001 n a0 (a0.length : Int) 0 := by kernel_rfl
theorem L_impl_yallNames_0_2_1002_1001_eq (n : Nat) (x1 : (List (List Int))) (x2 : Int) (x3 : Int) : L_impl_yallNames_0_2_1002_1001 (n + 1) x1 x2 x3 =
    bif decide (x3 < x2) then
      bif inB x3 x1.length then
        Option.bind (P_impl_GoodName (rd x1 x3 (Ty.dflt .str))) fun (y1 : Bool) =>
        bif !(y1) then
          some (!decide ((0 : Int) ≤ x3))
        else
          L_impl_yallNames_0_2_1002_1001 n x1 x2 (IntKind.wrap .i64 (x3 + 1))
      else none
    else
      some true := by kernel_rfl
theorem S_impl_yallNames_0_2_1002_1001 {x1 : (List (List Int))} (hl : x1.length ≤ maxLen) : ∀ (rest : List (List Int)) (k : Nat) (r : Bool), rest = x1.drop k → P_impl_yallNames_0_2_1002_1001 rest k = some r → Ev (fun n => L_impl_yallNames_0_2_1002_1001 n x1 (x1.length : Int) (k : Int)) r := by
  intro rest
  induction rest with
  | nil =>
    intro k r hr h
    have hk := drop_nil hr
    rw [P_impl_yallNames_0_2_1002_1001] at h
    refine Ev.step ?_ (fun n => L_impl_yallNames_0_2_1002_1001_eq n x1 (x1.length : Int) (k : Int))
    rw [show decide ((k : Int) < (x1.length : Int)) = false from decide_eq_false (by omega)]
    exact Ev.neg rfl (Ev.ofSome h)
  | cons e rest ih =>
    intro k r hr h
    obtain ⟨hk, hx, hr2⟩ := drop_cons (d := (Ty.dflt .str)) hr
    have hw := wrap_succ hl hk
    have ih2 : ∀ (r : Bool), P_impl_yallNames_0_2_1002_1001 rest (k + 1) = some r → Ev (fun n => L_impl_yallNames_0_2_1002_1001 n x1 (x1.length : Int) (IntKind.wrap .i64 ((k : Int) + 1))) r := by
      intro r h; rw [hw]; exact ih (k + 1) r hr2 h
    rw [P_impl_yallNames_0_2_1002_1001] at h
    refine Ev.step ?_ (fun n => L_impl_yallNames_0_2_1002_1001_eq n x1 (x1.length : Int) (k : Int))
    rw [show decide ((k : Int) < (x1.length : Int)) = true from decide_eq_true (by omega), inB_nat2 hk, hx]
    exact Ev.pos rfl (Ev.pos rfl (Ev.ofBind h fun y1 h => (Ev.ofBif h (fun h => (Ev.ofSome h)) (fun h => (ih2  _ h)))))
theorem S_impl_yallNames (a0 : (List (List Int))) {r : Bool} (h : P_impl_yallNames a0 = some r) : Ev (fun n => F_impl_yallNames n a0) r := by
  rw [P_impl_yallNames] at h
  refine Ev.of_eq ?_ (fun n => F_impl_yallNames_eq n a0)
  exact (Ev.ofLen h fun hl h => S_impl_yallNames_0_2_1002_1001 hl _ (0 : Nat) _ rfl h)
theorem hcs_impl_yallNames : ∀ x ∈ cs_impl_yallNames, CtrOk Try.prog x := (conOf_cons ok_impl_GoodName conOf_nil)
theorem ok_impl_yallNames : CtrOk Try.prog c_impl_yallNames := by
  refine ctr_of_run (c := c_impl_yallNames) (by kernel_rfl : Try.prog.funcs[40]? = some Try.f40) (code := Try.f40.body.getD .skip) (by kernel_rfl) (by kernel_rfl) (by kernel_rfl) (A := A_impl_yallNames) (I := In_impl_yallNames) hcs_impl_yallNames ?_
  rintro ⟨a0, u⟩ y hy
  exact (S_impl_yallNames a0 hy).get

/-! ## impl.yrising (36) -/
noncomputable def P_impl_yrising_0_2 (x1 : (List (List Int))) : List (List Int) → Nat → Option Bool
  | [], k =>
      some true
  | e :: rest, k =>
      bif decide ((0 : Int) < (k : Int)) then
        bif inB (IntKind.wrap .i64 ((k : Int) - 1)) x1.length then
          bif !lessI (rd x1 (IntKind.wrap .i64 ((k : Int) - 1)) (Ty.dflt .str)) (e) then
            some false
          else
            P_impl_yrising_0_2 x1 rest (k + 1)
        else none
      else
        P_impl_yrising_0_2 x1 rest (k + 1)
noncomputable def P_impl_yrising (a0 : (List (List Int))) : Option Bool :=
  lenOk a0 (P_impl_yrising_0_2 a0 a0 0)
noncomputable def c_impl_yrising : Ctr := ⟨36, [(.list .str)], [.bool], fun x => P_impl_yrising x.1⟩
def A_impl_yrising : List (List Nat × Ann) := [([0, 2], [.keep 0 0, .keep 0 5, .keep 0 6, .keep 0 7])]
def In_impl_yrising : List (List Nat × Nat) := []
noncomputable def cs_impl_yrising : List Ctr := []
noncomputable def F_impl_yrising (n : Nat) (a0 : (List (List Int))) : Option Bool := run Try.prog A_impl_yrising In_impl_yrising (conOf cs_impl_yrising) Try.f36 (Try.f36.body.getD .skip) (packT [.bool]) n (argsV [(.list .str)] (a0, ()))
noncomputable abbrev L_impl_yrising_0_2 (n : Nat) (x1 : (List (List Int))) (x2 : (List (List Int))) (x3 : Int) (x4 : Int) : Option Bool := lam Try.prog A_impl_yrising In_impl_yrising (conOf cs_impl_yrising) Try.f36 (Try.f36.body.getD .skip) (packT [.bool]) n [0, 2] [.d (.list .str) x1, .d (.list .str) x2, .d I64 x3, .d I64 x4]
theorem F_impl_yrising_eq (n : Nat) (a0 : (List (List Int))) : F_impl_yrising n a0 =
    L_impl_yrising_0_2 n a0 a0 (a0.length : Int) 0 := by kernel_rfl
theorem L_impl_yrising_0_2_eq (n : Nat) (x1 : (List (List Int))) (x2 : (List (List Int))) (x3 : Int) (x4 : Int) : L_impl_yrising_0_2 (n + 1) x1 x2 x3 x4 =
    bif decide (x4 < x3) then
      bif inB x4 x2.length then
        bif decide ((0 : Int) < x4) then
          bif inB (IntKind.wrap .i64 (x4 - 1)) x1.length then
            bif !lessI (rd x1 (IntKind.wrap .i64 (x4 - 1)) (Ty.dflt .str)) (rd x2 x4 (Ty.dflt .str)) then
              some false
            else
              L_impl_yrising_0_2 n x1 x2 x3 (IntKind.wrap .i64 (x4 + 1))
          else none
        else
          L_impl_yrising_0_2 n x1 x2 x3 (IntKind.wrap .i64 (x4 + 1))
      else none
    else
      some true := by kernel_rfl
theorem S_impl_yrising_0_2 {x1 : (List (List Int))} (hl : x1.length ≤ maxLen) : ∀ (rest : List (List Int)) (k : Nat) (r : Bool), rest = x1.drop k → P_impl_yrising_0_2 x1 rest k = some r → Ev (fun n => L_impl_yrising_0_2 n x1 x1 (x1.length : Int) (k : Int)) r := by
  intro rest
  induction rest with
  | nil =>
    intro k r hr h
    have hk := drop_nil hr
    rw [P_impl_yrising_0_2] at h
    refine Ev.step ?_ (fun n => L_impl_yrising_0_2_eq n x1 x1 (x1.length : Int) (k : Int))
    rw [show decide ((k : Int) < (x1.length : Int)) = false from decide_eq_false (by omega)]
    exact Ev.neg rfl (Ev.ofSome h)
  | cons e rest ih =>
    intro k r hr h
    obtain ⟨hk, hx, hr2⟩ := drop_cons (d := (Ty.dflt .str)) hr
    have hw := wrap_succ hl hk
    have ih2 : ∀ (r : Bool), P_impl_yrising_0_2 x1 rest (k + 1) = some r → Ev (fun n => L_impl_yrising_0_2 n x1 x1 (x1.length : Int) (IntKind.wrap .i64 ((k : Int) + 1))) r := by
      intro r h; rw [hw]; exact ih (k + 1) r hr2 h
    rw [P_impl_yrising_0_2] at h
    refine Ev.step ?_ (fun n => L_impl_yrising_0_2_eq n x1 x1 (x1.length : Int) (k : Int))
    rw [show decide ((k : Int) < (x1.length : Int)) = true from decide_eq_true (by omega), inB_nat2 hk, hx]
    exact Ev.pos rfl (Ev.pos rfl (Ev.ofBif h (fun h => (Ev.ofBif h (fun h => (Ev.ofBif h (fun h => (Ev.ofSome h)) (fun h => (ih2  _ h)))) (fun h => (Ev.ofNone h)))) (fun h => (ih2  _ h))))
theorem S_impl_yrising (a0 : (List (List Int))) {r : Bool} (h : P_impl_yrising a0 = some r) : Ev (fun n => F_impl_yrising n a0) r := by
  rw [P_impl_yrising] at h
  refine Ev.of_eq ?_ (fun n => F_impl_yrising_eq n a0)
  exact (Ev.ofLen h fun hl h => S_impl_yrising_0_2 hl _ (0 : Nat) _ rfl h)
theorem hcs_impl_yrising : ∀ x ∈ cs_impl_yrising, CtrOk Try.prog x := conOf_nil
theorem ok_impl_yrising : CtrOk Try.prog c_impl_yrising := by
  refine ctr_of_run (c := c_impl_yrising) (by kernel_rfl : Try.prog.funcs[36]? = some Try.f36) (code := Try.f36.body.getD .skip) (by kernel_rfl) (by kernel_rfl) (by kernel_rfl) (A := A_impl_yrising) (I := In_impl_yrising) hcs_impl_yrising ?_
  rintro ⟨a0, u⟩ y hy
  exact (S_impl_yrising a0 hy).get

/-! ## impl.yzeroAtom (103) -/
def T_impl_yzeroAtom (a0 : DAtom) : Bool :=
  @decide (a0 = (0, 0, ([] : List Int), ([] : List Int))) (Ty.decEq TyAtom a0 (0, 0, ([] : List Int), ([] : List Int)))
noncomputable def c_impl_yzeroAtom : Ctr := ⟨103, [TyAtom], [.bool], fun x => some (T_impl_yzeroAtom x.1)⟩
def A_impl_yzeroAtom : List (List Nat × Ann) := []
def In_impl_yzeroAtom : List (List Nat × Nat) := []
noncomputable def cs_impl_yzeroAtom : List Ctr := []
noncomputable def F_impl_yzeroAtom (n : Nat) (a0 : DAtom) : Option Bool := run Try.prog A_impl_yzeroAtom In_impl_yzeroAtom (conOf cs_impl_yzeroAtom) Try.f103 (Try.f103.body.getD .skip) (packT [.bool]) n (argsV [TyAtom] (a0, ()))
theorem F_impl_yzeroAtom_eq (n : Nat) (a0 : DAtom) : F_impl_yzeroAtom n a0 =
    some (@decide (a0 = (0, 0, ([] : List Int), ([] : List Int))) (Ty.decEq TyAtom a0 (0, 0, ([] : List Int), ([] : List Int)))) := by kernel_rfl
theorem S_impl_yzeroAtom (n : Nat) (a0 : DAtom) : F_impl_yzeroAtom n a0 = some (T_impl_yzeroAtom a0) := (F_impl_yzeroAtom_eq n a0).trans rfl
theorem hcs_impl_yzeroAtom : ∀ x ∈ cs_impl_yzeroAtom, CtrOk Try.prog x := conOf_nil
theorem ok_impl_yzeroAtom : CtrOk Try.prog c_impl_yzeroAtom := by
  refine ctr_of_run (c := c_impl_yzeroAtom) (by kernel_rfl : Try.prog.funcs[103]? = some Try.f103) (code := Try.f103.body.getD .skip) (by kernel_rfl) (by kernel_rfl) (by kernel_rfl) (A := A_impl_yzeroAtom) (I := In_impl_yzeroAtom) hcs_impl_yzeroAtom ?_
  rintro ⟨a0, u⟩ y hy
  exact ⟨0, (S_impl_yzeroAtom 0 a0).trans hy⟩

/-! ## cmp.isNaN[int] (105) -/
def T_cmp_isNaN_int (a0 : Int) : Bool :=
  !decide (a0 = a0)
noncomputable def c_cmp_isNaN_int : Ctr := ⟨105, [I64], [.bool], fun x => some (T_cmp_isNaN_int x.1)⟩
def A_cmp_isNaN_int : List (List Nat × Ann) := []
def In_cmp_isNaN_int : List (List Nat × Nat) := []
noncomputable def cs_cmp_isNaN_int : List Ctr := []
noncomputable def F_cmp_isNaN_int (n : Nat) (a0 : Int) : Option Bool := run Try.prog A_cmp_isNaN_int In_cmp_isNaN_int (conOf cs_cmp_isNaN_int) Try.f105 (Try.f105.body.getD .skip) (packT [.bool]) n (argsV [I64] (a0, ()))
theorem F_cmp_isNaN_int_eq (n : Nat) (a0 : Int) : F_cmp_isNaN_int n a0 =
    some (!decide (a0 = a0)) := by kernel_rfl
theorem S_cmp_isNaN_int (n : Nat) (a0 : Int) : F_cmp_isNaN_int n a0 = some (T_cmp_isNaN_int a0) := (F_cmp_isNaN_int_eq n a0).trans rfl
theorem hcs_cmp_isNaN_int : ∀ x ∈ cs_cmp_isNaN_int, CtrOk Try.prog x := conOf_nil
theorem ok_cmp_isNaN_int : CtrOk Try.prog c_cmp_isNaN_int := by
  refine ctr_of_run (c := c_cmp_isNaN_int) (by kernel_rfl : Try.prog.funcs[105]? = some Try.f105) (code := Try.f105.body.getD .skip) (by kernel_rfl) (by kernel_rfl) (by kernel_rfl) (A := A_cmp_isNaN_int) (I := In_cmp_isNaN_int) hcs_cmp_isNaN_int ?_
  rintro ⟨a0, u⟩ y hy
  exact ⟨0, (S_cmp_isNaN_int 0 a0).trans hy⟩

/-! ## cmp.Compare[int] (91) -/
def T_cmp_Compare_int (a0 : Int) (a1 : Int) : Int :=
  bif T_cmp_isNaN_int a0 then
    bif T_cmp_isNaN_int a1 then
      0
    else
      (-1)
  else
    bif T_cmp_isNaN_int a1 then
      1
    else
      bif decide (a0 < a1) then
        (-1)
      else
        bif decide (a1 < a0) then
          1
        else
          0
noncomputable def c_cmp_Compare_int : Ctr := ⟨91, [I64, I64], [I64], fun x => some (T_cmp_Compare_int x.1 x.2.1)⟩
def A_cmp_Compare_int : List (List Nat × Ann) := []
def In_cmp_Compare_int : List (List Nat × Nat) := []
noncomputable def cs_cmp_Compare_int : List Ctr := [c_cmp_isNaN_int]
noncomputable def F_cmp_Compare_int (n : Nat) (a0 : Int) (a1 : Int) : Option Int := run Try.prog A_cmp_Compare_int In_cmp_Compare_int (conOf cs_cmp_Compare_int) Try.f91 (Try.f91.body.getD .skip) (packT [I64]) n (argsV [I64, I64] (a0, a1, ()))
theorem F_cmp_Compare_int_eq (n : Nat) (a0 : Int) (a1 : Int) : F_cmp_Compare_int n a0 a1 =
    bif T_cmp_isNaN_int a0 then
      bif T_cmp_isNaN_int a1 then
        some 0
      else
        some (-1)
    else
      bif T_cmp_isNaN_int a1 then
        some 1
      else
        bif decide (a0 < a1) then
          some (-1)
        else
          bif decide (a1 < a0) then
            some 1
          else
            some 0 := by kernel_rfl
theorem S_cmp_Compare_int (n : Nat) (a0 : Int) (a1 : Int) : F_cmp_Compare_int n a0 a1 = some (T_cmp_Compare_int a0 a1) := (F_cmp_Compare_int_eq n a0 a1).trans (cond_some (cond_some rfl rfl) (cond_some rfl (cond_some rfl (cond_some rfl rfl))))
theorem hcs_cmp_Compare_int : ∀ x ∈ cs_cmp_Compare_int, CtrOk Try.prog x := (conOf_cons ok_cmp_isNaN_int conOf_nil)
theorem ok_cmp_Compare_int : CtrOk Try.prog c_cmp_Compare_int := by
  refine ctr_of_run (c := c_cmp_Compare_int) (by kernel_rfl : Try.prog.funcs[91]? = some Try.f91) (code := Try.f91.body.getD .skip) (by kernel_rfl) (by kernel_rfl) (by kernel_rfl) (A := A_cmp_Compare_int) (I := In_cmp_Compare_int) hcs_cmp_Compare_int ?_
  rintro ⟨a0, a1, u⟩ y hy
  exact ⟨0, (S_cmp_Compare_int 0 a0 a1).trans hy⟩

/-! ## cmp.isNaN[string] (106) -/
def T_cmp_isNaN_string (a0 : (List Int)) : Bool :=
  !decide (a0 = a0)
noncomputable def c_cmp_isNaN_string : Ctr := ⟨106, [.str], [.bool], fun x => some (T_cmp_isNaN_string x.1)⟩
def A_cmp_isNaN_string : List (List Nat × Ann) := []
def In_cmp_isNaN_string : List (List Nat × Nat) := []
noncomputable def cs_cmp_isNaN_string : List Ctr := []
noncomputable def F_cmp_isNaN_string (n : Nat) (a0 : (List Int)) : Option Bool := run Try.prog A_cmp_isNaN_string In_cmp_isNaN_string (conOf cs_cmp_isNaN_string) Try.f106 (Try.f106.body.getD .skip) (packT [.bool]) n (argsV [.str] (a0, ()))
theorem F_cmp_isNaN_string_eq (n : Nat) (a0 : (List Int)) : F_cmp_isNaN_string n a0 =
    some (!decide (a0 = a0)) := by kernel_rfl
theorem S_cmp_isNaN_string (n : Nat) (a0 : (List Int)) : F_cmp_isNaN_string n a0 = some (T_cmp_isNaN_string a0) := (F_cmp_isNaN_string_eq n a0).trans rfl
theorem hcs_cmp_isNaN_string : ∀ x ∈ cs_cmp_isNaN_string, CtrOk Try.prog x := conOf_nil
theorem ok_cmp_isNaN_string : CtrOk Try.prog c_cmp_isNaN_string := by
  refine ctr_of_run (c := c_cmp_isNaN_string) (by kernel_rfl : Try.prog.funcs[106]? = some Try.f106) (code := Try.f106.body.getD .skip) (by kernel_rfl) (by kernel_rfl) (by kernel_rfl) (A := A_cmp_isNaN_string) (I := In_cmp_isNaN_string) hcs_cmp_isNaN_string ?_
  rintro ⟨a0, u⟩ y hy
  exact ⟨0, (S_cmp_isNaN_string 0 a0).trans hy⟩

/-! ## cmp.Compare[string] (92) -/
def T_cmp_Compare_string (a0 : (List Int)) (a1 : (List Int)) : Int :=
  bif T_cmp_isNaN_string a0 then
    bif T_cmp_isNaN_string a1 then
      0
    else
      (-1)
  else
    bif T_cmp_isNaN_string a1 then
      1
    else
      bif lessI a0 a1 then
        (-1)
      else
        bif lessI a1 a0 then
          1
        else
          0
noncomputable def c_cmp_Compare_string : Ctr := ⟨92, [.str, .str], [I64], fun x => some (T_cmp_Compare_string x.1 x.2.1)⟩
def A_cmp_Compare_string : List (List Nat × Ann) := []
def In_cmp_Compare_string : List (List Nat × Nat) := []
noncomputable def cs_cmp_Compare_string : List Ctr := [c_cmp_isNaN_string]
noncomputable def F_cmp_Compare_string (n : Nat) (a0 : (List Int)) (a1 : (List Int)) : Option Int := run Try.prog A_cmp_Compare_string In_cmp_Compare_string (conOf cs_cmp_Compare_string) Try.f92 (Try.f92.body.getD .skip) (packT [I64]) n (argsV [.str, .str] (a0, a1, ()))
theorem F_cmp_Compare_string_eq (n : Nat) (a0 : (List Int)) (a1 : (List Int)) : F_cmp_Compare_string n a0 a1 =
    bif T_cmp_isNaN_string a0 then
      bif T_cmp_isNaN_string a1 then
        some 0
      else
        some (-1)
    else
      bif T_cmp_isNaN_string a1 then
        some 1
      else
        bif lessI a0 a1 then
          some (-1)
        else
          bif lessI a1 a0 then
            some 1
          else
            some 0 := by kernel_rfl
theorem S_cmp_Compare_string (n : Nat) (a0 : (List Int)) (a1 : (List Int)) : F_cmp_Compare_string n a0 a1 = some (T_cmp_Compare_string a0 a1) := (F_cmp_Compare_string_eq n a0 a1).trans (cond_some (cond_some rfl rfl) (cond_some rfl (cond_some rfl (cond_some rfl rfl))))
theorem hcs_cmp_Compare_string : ∀ x ∈ cs_cmp_Compare_string, CtrOk Try.prog x := (conOf_cons ok_cmp_isNaN_string conOf_nil)
theorem ok_cmp_Compare_string : CtrOk Try.prog c_cmp_Compare_string := by
  refine ctr_of_run (c := c_cmp_Compare_string) (by kernel_rfl : Try.prog.funcs[92]? = some Try.f92) (code := Try.f92.body.getD .skip) (by kernel_rfl) (by kernel_rfl) (by kernel_rfl) (A := A_cmp_Compare_string) (I := In_cmp_Compare_string) hcs_cmp_Compare_string ?_
  rintro ⟨a0, a1, u⟩ y hy
  exact ⟨0, (S_cmp_Compare_string 0 a0 a1).trans hy⟩

/-! ## cmp.Or[int] (90) -/
noncomputable def P_cmp_Or_int_0_3 : List Int → Option Int
  | [] =>
      some (0 : Int)
  | e :: rest =>
      bif !decide (e = (0 : Int)) then
        some e
      else
        P_cmp_Or_int_0_3 rest
noncomputable def P_cmp_Or_int (a0 : (List Int)) : Option Int :=
  lenOk a0 (P_cmp_Or_int_0_3 a0)
noncomputable def c_cmp_Or_int : Ctr := ⟨90, [(.list I64)], [I64], fun x => P_cmp_Or_int x.1⟩
def A_cmp_Or_int : List (List Nat × Ann) := [([0, 3], [.keep 0 3, .keep 0 6, .keep 0 7, .keep 0 8])]
def In_cmp_Or_int : List (List Nat × Nat) := []
noncomputable def cs_cmp_Or_int : List Ctr := []
noncomputable def F_cmp_Or_int (n : Nat) (a0 : (List Int)) : Option Int := run Try.prog A_cmp_Or_int In_cmp_Or_int (conOf cs_cmp_Or_int) Try.f90 (Try.f90.body.getD .skip) (packT [I64]) n (argsV [(.list I64)] (a0, ()))
noncomputable abbrev L_cmp_Or_int_0_3 (n : Nat) (x1 : Int) (x2 : (List Int)) (x3 : Int) (x4 : Int) : Option Int := lam Try.prog A_cmp_Or_int In_cmp_Or_int (conOf cs_cmp_Or_int) Try.f90 (Try.f90.body.getD .skip) (packT [I64]) n [0, 3] [.d I64 x1, .d (.list I64) x2, .d I64 x3, .d I64 x4]
theorem F_cmp_Or_int_eq (n : Nat) (a0 : (List Int)) : F_cmp_Or_int n a0 =
    L_cmp_Or_int_0_3 n 0 a0 (a0.length : Int) 0 := by kernel_rfl
theorem L_cmp_Or_int_0_3_eq (n : Nat) (x1 : Int) (x2 : (List Int)) (x3 : Int) (x4 : Int) : L_cmp_Or_int_0_3 (n + 1) x1 x2 x3 x4 =
    bif decide (x4 < x3) then
      bif inB x4 x2.length then
        bif !decide (rd x2 x4 (Ty.dflt I64) = x1) then
          some (rd x2 x4 (Ty.dflt I64))
        else
          L_cmp_Or_int_0_3 n x1 x2 x3 (IntKind.wrap .i64 (x4 + 1))
      else none
    else
      some x1 := by kernel_rfl
theorem S_cmp_Or_int_0_3 {x2 : (List Int)} (hl : x2.length ≤ maxLen) : ∀ (rest : List Int) (k : Nat) (r : Int), rest = x2.drop k → P_cmp_Or_int_0_3 rest = some r → Ev (fun n => L_cmp_Or_int_0_3 n (0 : Int) x2 (x2.length : Int) (k : Int)) r := by
  intro rest
  induction rest with
  | nil =>
    intro k r hr h
    have hk := drop_nil hr
    rw [P_cmp_Or_int_0_3] at h
    refine Ev.step ?_ (fun n => L_cmp_Or_int_0_3_eq n (0 : Int) x2 (x2.length : Int) (k : Int))
    rw [show decide ((k : Int) < (x2.length : Int)) = false from decide_eq_false (by omega)]
    exact Ev.neg rfl (Ev.ofSome h)
  | cons e rest ih =>
    intro k r hr h
    obtain ⟨hk, hx, hr2⟩ := drop_cons (d := (Ty.dflt I64)) hr
    have hw := wrap_succ hl hk
    have ih2 : ∀ (r : Int), P_cmp_Or_int_0_3 rest = some r → Ev (fun n => L_cmp_Or_int_0_3 n (0 : Int) x2 (x2.length : Int) (IntKind.wrap .i64 ((k : Int) + 1))) r := by
      intro r h; rw [hw]; exact ih (k + 1) r hr2 h
    rw [P_cmp_Or_int_0_3] at h
    refine Ev.step ?_ (fun n => L_cmp_Or_int_0_3_eq n (0 : Int) x2 (x2.length : Int) (k : Int))
    rw [show decide ((k : Int) < (x2.length : Int)) = true from decide_eq_true (by omega), inB_nat2 hk, hx]
    exact Ev.pos rfl (Ev.pos rfl (Ev.ofBif h (fun h => (Ev.ofSome h)) (fun h => (ih2  _ h))))
theorem S_cmp_Or_int (a0 : (List Int)) {r : Int} (h : P_cmp_Or_int a0 = some r) : Ev (fun n => F_cmp_Or_int n a0) r := by
  rw [P_cmp_Or_int] at h
  refine Ev.of_eq ?_ (fun n => F_cmp_Or_int_eq n a0)
  exact (Ev.ofLen h fun hl h => S_cmp_Or_int_0_3 hl _ (0 : Nat) _ rfl h)
theorem hcs_cmp_Or_int : ∀ x ∈ cs_cmp_Or_int, CtrOk Try.prog x := conOf_nil
theorem ok_cmp_Or_int : CtrOk Try.prog c_cmp_Or_int := by
  refine ctr_of_run (c := c_cmp_Or_int) (by kernel_rfl : Try.prog.funcs[90]? = some Try.f90) (code := Try.f90.body.getD .skip) (by kernel_rfl) (by kernel_rfl) (by kernel_rfl) (A := A_cmp_Or_int) (I := In_cmp_Or_int) hcs_cmp_Or_int ?_
  rintro ⟨a0, u⟩ y hy
  exact (S_cmp_Or_int a0 hy).get

/-! ## impl.ycmpAtom (58) -/
noncomputable def P_impl_ycmpAtom (a0 : DAtom) (a1 : DAtom) : Option Int :=
  Option.bind (P_cmp_Or_int ([T_cmp_Compare_int a0.1 a1.1, T_cmp_Compare_int a0.2.1 a1.2.1, T_cmp_Compare_string a0.2.2.2 a1.2.2.2, T_cmp_Compare_string a0.2.2.1 a1.2.2.1] : List Int)) fun (y1 : Int) =>
  some y1
noncomputable def c_impl_ycmpAtom : Ctr := ⟨58, [TyAtom, TyAtom], [I64], fun x => P_impl_ycmpAtom x.1 x.2.1⟩
def A_impl_ycmpAtom : List (List Nat × Ann) := []
def In_impl_ycmpAtom : List (List Nat × Nat) := []
noncomputable def cs_impl_ycmpAtom : List Ctr := [c_cmp_Compare_int, c_cmp_Compare_string, c_cmp_Or_int]
noncomputable def F_impl_ycmpAtom (n : Nat) (a0 : DAtom) (a1 : DAtom) : Option Int := run Try.prog A_impl_ycmpAtom In_impl_ycmpAtom (conOf cs_impl_ycmpAtom) Try.f58 (Try.f58.body.getD .skip) (packT [I64]) n (argsV [TyAtom, TyAtom] (a0, a1, ()))
theorem F_impl_ycmpAtom_eq (n : Nat) (a0 : DAtom) (a1 : DAtom) : F_impl_ycmpAtom n a0 a1 =
    Option.bind (P_cmp_Or_int ([T_cmp_Compare_int a0.1 a1.1, T_cmp_Compare_int a0.2.1 a1.2.1, T_cmp_Compare_string a0.2.2.2 a1.2.2.2, T_cmp_Compare_string a0.2.2.1 a1.2.2.1] : List Int)) fun (y1 : Int) =>
    some y1 := by kernel_rfl
theorem S_impl_ycmpAtom (a0 : DAtom) (a1 : DAtom) {r : Int} (h : P_impl_ycmpAtom a0 a1 = some r) : Ev (fun n => F_impl_ycmpAtom n a0 a1) r := by
  rw [P_impl_ycmpAtom] at h
  refine Ev.of_eq ?_ (fun n => F_impl_ycmpAtom_eq n a0 a1)
  exact (Ev.ofBind h fun y1 h => (Ev.ofSome h))
theorem hcs_impl_ycmpAtom : ∀ x ∈ cs_impl_ycmpAtom, CtrOk Try.prog x := (conOf_cons ok_cmp_Compare_int (conOf_cons ok_cmp_Compare_string (conOf_cons ok_cmp_Or_int conOf_nil)))
theorem ok_impl_ycmpAtom : CtrOk Try.prog c_impl_ycmpAtom := by
  refine ctr_of_run (c := c_impl_ycmpAtom) (by kernel_rfl : Try.prog.funcs[58]? = some Try.f58) (code := Try.f58.body.getD .skip) (by kernel_rfl) (by kernel_rfl) (by kernel_rfl) (A := A_impl_ycmpAtom) (I := In_impl_ycmpAtom) hcs_impl_ycmpAtom ?_
  rintro ⟨a0, a1, u⟩ y hy
  exact (S_impl_ycmpAtom a0 a1 hy).get

/-! ## impl.yrisingAtoms (93) -/
noncomputable def P_impl_yrisingAtoms_0_2 (x1 : (List DAtom)) : List DAtom → Nat → Option Bool
  | [], k =>
      some true
  | e :: rest, k =>
      Option.bind (P_impl_GoodAtom (e)) fun (y1 : Bool) =>
      bif !(y1) then
        some false
      else
        bif decide ((0 : Int) < (k : Int)) then
          bif inB (IntKind.wrap .i64 ((k : Int) - 1)) x1.length then
            Option.bind (P_impl_ycmpAtom (rd x1 (IntKind.wrap .i64 ((k : Int) - 1)) (Ty.dflt TyAtom)) (e)) fun (y2 : Int) =>
            bif decide ((0 : Int) ≤ y2) then
              some false
            else
              P_impl_yrisingAtoms_0_2 x1 rest (k + 1)
          else none
        else
          P_impl_yrisingAtoms_0_2 x1 rest (k + 1)
noncomputable def P_impl_yrisingAtoms (a0 : (List DAtom)) : Option Bool :=
  lenOk a0 (P_impl_yrisingAtoms_0_2 a0 a0 0)
noncomputable def c_impl_yrisingAtoms : Ctr := ⟨93, [(.list TyAtom)], [.bool], fun x => P_impl_yrisingAtoms x.1⟩
def A_impl_yrisingAtoms : List (List Nat × Ann) := [([0, 2], [.keep 0 0, .keep 0 5, .keep 0 6, .keep 0 7])]
def In_impl_yrisingAtoms : List (List Nat × Nat) := []
noncomputable def cs_impl_yrisingAtoms : List Ctr := [c_impl_GoodAtom, c_impl_ycmpAtom]
noncomputable def F_impl_yrisingAtoms (n : Nat) (a0 : (List DAtom)) : Option Bool := run Try.prog A_impl_yrisingAtoms In_impl_yrisingAtoms (conOf cs_impl_yrisingAtoms) Try.f93 (Try.f93.body.getD .skip) (packT [.bool]) n (argsV [(.list TyAtom)] (a0, ()))
noncomputable abbrev L_impl_yrisingAtoms_0_2 (n : Nat) (x1 : (List DAtom)) (x2 : (List DAtom)) (x3 : Int) (x4 : Int) : Option Bool := lam Try.prog A_impl_yrisingAtoms In_impl_yrisingAtoms (conOf cs_impl_yrisingAtoms) Try.f93 (Try.f93.body.getD .skip) (packT [.bool]) n [0, 2] [.d (.list TyAtom) x1, .d (.list TyAtom) x2, .d I64 x3, .d I64 x4]
theorem F_impl_yrisingAtoms_eq (n : Nat) (a0 : (List DAtom)) : F_impl_yrisingAtoms n a0 =
    L_impl_yrisingAtoms_0_2 n a0 a0 (a0.length : Int) 0 := by kernel_rfl
theorem L_impl_yrisingAtoms_0_2_eq (n : Nat) (x1 : (List DAtom)) (x2 : (List DAtom)) (x3 : Int) (x4 : Int) : L_impl_yrisingAtoms_0_2 (n + 1) x1 x2 x3 x4 =
    bif decide (x4 < x3) then
      bif inB x4 x2.length then
        Option.bind (P_impl_GoodAtom (rd x2 x4 (Ty.dflt TyAtom))) fun (y1 : Bool) =>
        bif !(y1) then
          some false
        else
          bif decide ((0 : Int) < x4) then
            bif inB (IntKind.wrap .i64 (x4 - 1)) x1.length then
              Option.bind (P_impl_ycmpAtom (rd x1 (IntKind.wrap .i64 (x4 - 1)) (Ty.dflt TyAtom)) (rd x2 x4 (Ty.dflt TyAtom))) fun (y2 : Int) =>
              bif decide ((0 : Int) ≤ y2) then
                some false
              else
                L_impl_yrisingAtoms_0_2 n x1 x2 x3 (IntKind.wrap .i64 (x4 + 1))
            else none
          else
            L_impl_yrisingAtoms_0_2 n x1 x2 x3 (IntKind.wrap .i64 (x4 + 1))
      else none
    else
      some true := by kernel_rfl
theorem S_impl_yrisingAtoms_0_2 {x1 : (List DAtom)} (hl : x1.length ≤ maxLen) : ∀ (rest : List DAtom) (k : Nat) (r : Bool), rest = x1.drop k → P_impl_yrisingAtoms_0_2 x1 rest k = some r → Ev (fun n => L_impl_yrisingAtoms_0_2 n x1 x1 (x1.length : Int) (k : Int)) r := by
  intro rest
  induction rest with
  | nil =>
    intro k r hr h
    have hk := drop_nil hr
    rw [P_impl_yrisingAtoms_0_2] at h
    refine Ev.step ?_ (fun n => L_impl_yrisingAtoms_0_2_eq n x1 x1 (x1.length : Int) (k : Int))
    rw [show decide ((k : Int) < (x1.length : Int)) = false from decide_eq_false (by omega)]
    exact Ev.neg rfl (Ev.ofSome h)
  | cons e rest ih =>
    intro k r hr h
    obtain ⟨hk, hx, hr2⟩ := drop_cons (d := (Ty.dflt TyAtom)) hr
    have hw := wrap_succ hl hk
    have ih2 : ∀ (r : Bool), P_impl_yrisingAtoms_0_2 x1 rest (k + 1) = some r → Ev (fun n => L_impl_yrisingAtoms_0_2 n x1 x1 (x1.length : Int) (IntKind.wrap .i64 ((k : Int) + 1))) r := by
      intro r h; rw [hw]; exact ih (k + 1) r hr2 h
    rw [P_impl_yrisingAtoms_0_2] at h
    refine Ev.step ?_ (fun n => L_impl_yrisingAtoms_0_2_eq n x1 x1 (x1.length : Int) (k : Int))
    rw [show decide ((k : Int) < (x1.length : Int)) = true from decide_eq_true (by omega), inB_nat2 hk, hx]
    exact Ev.pos rfl (Ev.pos rfl (Ev.ofBind h fun y1 h => (Ev.ofBif h (fun h => (Ev.ofSome h)) (fun h => (Ev.ofBif h (fun h => (Ev.ofBif h (fun h => (Ev.ofBind h fun y2 h => (Ev.ofBif h (fun h => (Ev.ofSome h)) (fun h => (ih2  _ h))))) (fun h => (Ev.ofNone h)))) (fun h => (ih2  _ h)))))))
theorem S_impl_yrisingAtoms (a0 : (List DAtom)) {r : Bool} (h : P_impl_yrisingAtoms a0 = some r) : Ev (fun n => F_impl_yrisingAtoms n a0) r := by
  rw [P_impl_yrisingAtoms] at h
  refine Ev.of_eq ?_ (fun n => F_impl_yrisingAtoms_eq n a0)
  exact (Ev.ofLen h fun hl h => S_impl_yrisingAtoms_0_2 hl _ (0 : Nat) _ rfl h)
theorem hcs_impl_yrisingAtoms : ∀ x ∈ cs_impl_yrisingAtoms, CtrOk Try.prog x := (conOf_cons ok_impl_GoodAtom (conOf_cons ok_impl_ycmpAtom conOf_nil))
theorem ok_impl_yrisingAtoms : CtrOk Try.prog c_impl_yrisingAtoms := by
  refine ctr_of_run (c := c_impl_yrisingAtoms) (by kernel_rfl : Try.prog.funcs[93]? = some Try.f93) (code := Try.f93.body.getD .skip) (by kernel_rfl) (by kernel_rfl) (by kernel_rfl) (A := A_impl_yrisingAtoms) (I := In_impl_yrisingAtoms) hcs_impl_yrisingAtoms ?_
  rintro ⟨a0, u⟩ y hy
  exact (S_impl_yrisingAtoms a0 hy).get

/-! ## impl.GoodValue (86) -/
noncomputable def P_impl_GoodValue_0_2_1002_7031 : List DAtom → Nat → Option Bool
  | [], k =>
      some true
  | e :: rest, k =>
      Option.bind (P_impl_GoodAtom (e)) fun (y5 : Bool) =>
      bif !(y5) then
        some (!decide ((0 : Int) ≤ (k : Int)))
      else
        P_impl_GoodValue_0_2_1002_7031 rest (k + 1)
noncomputable def P_impl_GoodValue (a0 : DValue) : Option Bool :=
  bif decide (a0.1 = 1) then
    Option.bind (P_impl_GoodAtom a0.2.1) fun (y1 : Bool) =>
    bif y1 then
      bif decide ((a0.2.2.1.length : Int) = 0) then
        some (decide ((a0.2.2.2.length : Int) = 0))
      else
        some false
    else
      some false
  else
    bif decide (a0.1 = 2) then
      bif T_impl_yzeroAtom a0.2.1 then
        bif decide ((a0.2.2.1.length : Int) ≤ 50) then
          bif decide ((a0.2.2.2.length : Int) = 0) then
            Option.bind (P_impl_yrisingAtoms a0.2.2.1) fun (y2 : Bool) =>
            some y2
          else
            some false
        else
          some false
      else
        some false
    else
      bif decide (a0.1 = 3) then
        bif T_impl_yzeroAtom a0.2.1 then
          bif decide ((a0.2.2.2.length : Int) ≤ 50) then
            bif decide ((a0.2.2.1.length : Int) = (a0.2.2.2.length : Int)) then
              Option.bind (P_impl_yallNames a0.2.2.2) fun (y3 : Bool) =>
              bif y3 then
                Option.bind (P_impl_yrising a0.2.2.2) fun (y4 : Bool) =>
                bif y4 then
                  lenOk a0.2.2.1 (P_impl_GoodValue_0_2_1002_7031 a0.2.2.1 0)
                else
                  some false
              else
                some false
            else
              some false
          else
            some false
        else
          some false
      else
        some false
noncomputable def c_impl_GoodValue : Ctr := ⟨86, [TyValue], [.bool], fun x => P_impl_GoodValue x.1⟩
def A_impl_GoodValue : List (List Nat × Ann) := [([0, 2, 1002, 7031], [.keep 0 74, .keep 2 0, .keep 2 1, .keep 2 7, .keep 2 8])]
def In_impl_GoodValue : List (List Nat × Nat) := [([7031], 94), ([1002, 7031], 107), ([4005, 1002, 7031], 104)]
noncomputable def cs_impl_GoodValue : List Ctr := [c_impl_GoodAtom, c_impl_yzeroAtom, c_impl_yrisingAtoms, c_impl_yallNames, c_impl_yrising]
noncomputable def F_impl_GoodValue (n : Nat) (a0 : DValue) : Option Bool := run Try.prog A_impl_GoodValue In_impl_GoodValue (conOf cs_impl_GoodValue) Try.f86 (Try.f86.body.getD .skip) (packT [.bool]) n (argsV [TyValue] (a0, ()))
noncomputable abbrev L_impl_GoodValue_0_2_1002_7031 (n : Nat) (x1 : Bool) (x2 : (List DAtom)) (x3 : Int) (x4 : Int) : Option Bool := lam Try.prog A_impl_GoodValue In_impl_GoodValue (conOf cs_impl_GoodValue) Try.f86 (Try.f86.body.getD .skip) (packT [.bool]) n [0, 2, 1002, 7031] [.d .bool x1, .d (.list TyAtom) x2, .fn 104 [], .d I64 x3, .d I64 x4]
theorem F_impl_GoodValue_eq (n : Nat) (a0 : DValue) : F_impl_GoodValue n a0 =
    bif decide (a0.1 = 1) then
      Option.bind (P_impl_GoodAtom a0.2.1) fun (y1 : Bool) =>
      bif y1 then
        bif decide ((a0.2.2.1.length : Int) = 0) then
          some (decide ((a0.2.2.2.length : Int) = 0))
        else
          some false
      else
        some false
    else
      bif decide (a0.1 = 2) then
        bif T_impl_yzeroAtom a0.2.1 then
          bif decide ((a0.2.2.1.length : Int) ≤ 50) then
            bif decide ((a0.2.2.2.length : Int) = 0) then
              Option.bind (P_impl_yrisingAtoms a0.2.2.1) fun (y2 : Bool) =>
              some y2
            else
              some false
          else
            some false
        else
          some false
      else
        bif decide (a0.1 = 3) then
          bif T_impl_yzeroAtom a0.2.1 then
            bif decide ((a0.2.2.2.length : Int) ≤ 50) then
              bif decide ((a0.2.2.1.length : Int) = (a0.2.2.2.length : Int)) then
                Option.bind (P_impl_yallNames a0.2.2.2) fun (y3 : Bool) =>
                bif y3 then
                  Option.bind (P_impl_yrising a0.2.2.2) fun (y4 : Bool) =>
                  bif y4 then
                    L_impl_GoodValue_0_2_1002_7031 n true a0.2.2.1 (a0.2.2.1.length : Int) 0
                  else
                    some false
                else
                  some false
              else
                some false
            else
              some false
          else
            some false
        else
          some false := by kernel_rfl
theorem L_impl_GoodValue_0_2_1002_7031_eq (n : Nat) (x1 : Bool) (x2 : (List DAtom)) (x3 : Int) (x4 : Int) : L_impl_GoodValue_0_2_1002_7031 (n + 1) x1 x2 x3 x4 =
    bif decide (x4 < x3) then
      bif inB x4 x2.length then
        Option.bind (P_impl_GoodAtom (rd x2 x4 (Ty.dflt TyAtom))) fun (y5 : Bool) =>
        bif !(y5) then
          bif x1 then
            some (!decide ((0 : Int) ≤ x4))
          else
            some false
        else
          L_impl_GoodValue_0_2_1002_7031 n x1 x2 x3 (IntKind.wrap .i64 (x4 + 1))
      else none
    else
      bif x1 then
        some true
      else
        some false := by kernel_rfl
theorem S_impl_GoodValue_0_2_1002_7031 {x2 : (List DAtom)} (hl : x2.length ≤ maxLen) : ∀ (rest : List DAtom) (k : Nat) (r : Bool), rest = x2.drop k → P_impl_GoodValue_0_2_1002_7031 rest k = some r → Ev (fun n => L_impl_GoodValue_0_2_1002_7031 n true x2 (x2.length : Int) (k : Int)) r := by
  intro rest
  induction rest with
  | nil =>
    intro k r hr h
    have hk := drop_nil hr
    rw [P_impl_GoodValue_0_2_1002_7031] at h
    refine Ev.step ?_ (fun n => L_impl_GoodValue_0_2_1002_7031_eq n true x2 (x2.length : Int) (k : Int))
    rw [show decide ((k : Int) < (x2.length : Int)) = false from decide_eq_false (by omega)]
    exact Ev.neg rfl (Ev.pos rfl (Ev.ofSome h))
  | cons e rest ih =>
    intro k r hr h
    obtain ⟨hk, hx, hr2⟩ := drop_cons (d := (Ty.dflt TyAtom)) hr
    have hw := wrap_succ hl hk
    have ih2 : ∀ (r : Bool), P_impl_GoodValue_0_2_1002_7031 rest (k + 1) = some r → Ev (fun n => L_impl_GoodValue_0_2_1002_7031 n true x2 (x2.length : Int) (IntKind.wrap .i64 ((k : Int) + 1))) r := by
      intro r h; rw [hw]; exact ih (k + 1) r hr2 h
    rw [P_impl_GoodValue_0_2_1002_7031] at h
    refine Ev.step ?_ (fun n => L_impl_GoodValue_0_2_1002_7031_eq n true x2 (x2.length : Int) (k : Int))
    rw [show decide ((k : Int) < (x2.length : Int)) = true from decide_eq_true (by omega), inB_nat2 hk, hx]
    exact Ev.pos rfl (Ev.pos rfl (Ev.ofBind h fun y5 h => (Ev.ofBif h (fun h => (Ev.pos rfl (Ev.ofSome h))) (fun h => (ih2  _ h)))))
theorem S_impl_GoodValue (a0 : DValue) {r : Bool} (h : P_impl_GoodValue a0 = some r) : Ev (fun n => F_impl_GoodValue n a0) r := by
  rw [P_impl_GoodValue] at h
  refine Ev.of_eq ?_ (fun n => F_impl_GoodValue_eq n a0)
  exact (Ev.ofBif h (fun h => (Ev.ofBind h fun y1 h => (Ev.ofBif h (fun h => (Ev.ofBif h (fun h => (Ev.ofSome h)) (fun h => (Ev.ofSome h)))) (fun h => (Ev.ofSome h))))) (fun h => (Ev.ofBif h (fun h => (Ev.ofBif h (fun h => (Ev.ofBif h (fun h => (Ev.ofBif h (fun h => (Ev.ofBind h fun y2 h => (Ev.ofSome h))) (fun h => (Ev.ofSome h)))) (fun h => (Ev.ofSome h)))) (fun h => (Ev.ofSome h)))) (fun h => (Ev.ofBif h (fun h => (Ev.ofBif h (fun h => (Ev.ofBif h (fun h => (Ev.ofBif h (fun h => (Ev.ofBind h fun y3 h => (Ev.ofBif h (fun h => (Ev.ofBind h fun y4 h => (Ev.ofBif h (fun h => (Ev.ofLen h fun hl h => S_impl_GoodValue_0_2_1002_7031 hl _ (0 : Nat) _ rfl h)) (fun h => (Ev.ofSome h))))) (fun h => (Ev.ofSome h))))) (fun h => (Ev.ofSome h)))) (fun h => (Ev.ofSome h)))) (fun h => (Ev.ofSome h)))) (fun h => (Ev.ofSome h)))))))
theorem hcs_impl_GoodValue : ∀ x ∈ cs_impl_GoodValue, CtrOk Try.prog x := (conOf_cons ok_impl_GoodAtom (conOf_cons ok_impl_yzeroAtom (conOf_cons ok_impl_yrisingAtoms (conOf_cons ok_impl_yallNames (conOf_cons ok_impl_yrising conOf_nil)))))
theorem ok_impl_GoodValue : CtrOk Try.prog c_impl_GoodValue := by
  refine ctr_of_run (c := c_impl_GoodValue) (by kernel_rfl : Try.prog.funcs[86]? = some Try.f86) (code := Try.f86.body.getD .skip) (by kernel_rfl) (by kernel_rfl) (by kernel_rfl) (A := A_impl_GoodValue) (I := In_impl_GoodValue) hcs_impl_GoodValue ?_
  rintro ⟨a0, u⟩ y hy
  exact (S_impl_GoodValue a0 hy).get

/-! ## impl.ygoodFields (52) -/
noncomputable def P_impl_ygoodFields_0_2_1002_1020 : List DValue → Nat → Option Bool
  | [], k =>
      some true
  | e :: rest, k =>
      bif decide ((e).1 = 3) then
        some (!decide ((0 : Int) ≤ (k : Int)))
      else
        Option.bind (P_impl_GoodValue (e)) fun (y3 : Bool) =>
        bif !(y3) then
          some (!decide ((0 : Int) ≤ (k : Int)))
        else
          P_impl_ygoodFields_0_2_1002_1020 rest (k + 1)
noncomputable def P_impl_ygoodFields (a0 : (List (List Int))) (a1 : (List DValue)) : Option Bool :=
  bif decide ((a0.length : Int) ≤ 20) then
    bif decide ((a0.length : Int) = (a1.length : Int)) then
      Option.bind (P_impl_yallNames a0) fun (y1 : Bool) =>
      bif y1 then
        Option.bind (P_impl_yrising a0) fun (y2 : Bool) =>
        bif y2 then
          lenOk a1 (P_impl_ygoodFields_0_2_1002_1020 a1 0)
        else
          some false
      else
        some false
    else
      some false
  else
    some false
noncomputable def c_impl_ygoodFields : Ctr := ⟨52, [(.list .str), (.list TyValue)], [.bool], fun x => P_impl_ygoodFields x.1 x.2.1⟩
def A_impl_ygoodFields : List (List Nat × Ann) := [([0, 2, 1002, 1020], [.keep 0 23, .keep 2 0, .keep 2 1, .keep 2 7, .keep 2 8])]
def In_impl_ygoodFields : List (List Nat × Nat) := [([1020], 84), ([1002, 1020], 102), ([4005, 1002, 1020], 85)]
noncomputable def cs_impl_ygoodFields : List Ctr := [c_impl_yallNames, c_impl_yrising, c_impl_GoodValue]
noncomputable def F_impl_ygoodFields (n : Nat) (a0 : (List (List Int))) (a1 : (List DValue)) : Option Bool := run Try.prog A_impl_ygoodFields In_impl_ygoodFields (conOf cs_impl_ygoodFields) Try.f52 (Try.f52.body.getD .skip) (packT [.bool]) n (argsV [(.list .str), (.list TyValue)] (a0, a1, ()))
noncomputable abbrev L_impl_ygoodFields_0_2_1002_1020 (n : Nat) (x1 : Bool) (x2 : (List DValue)) (x3 : Int) (x4 : Int) : Option Bool := lam Try.prog A_impl_ygoodFields In_impl_ygoodFields (conOf cs_impl_ygoodFields) Try.f52 (Try.f52.body.getD .skip) (packT [.bool]) n [0, 2, 1002, 1020] [.d .bool x1, .d (.list TyValue) x2, .fn 85 [], .d I64 x3, .d I64 x4]
theorem F_impl_ygoodFields_eq (n : Nat) (a0 : (List (List Int))) (a1 : (List DValue)) : F_impl_ygoodFields n a0 a1 =
    bif decide ((a0.length : Int) ≤ 20) then
      bif decide ((a0.length : Int) = (a1.length : Int)) then
        Option.bind (P_impl_yallNames a0) fun (y1 : Bool) =>
        bif y1 then
          Option.bind (P_impl_yrising a0) fun (y2 : Bool) =>
          bif y2 then
            L_impl_ygoodFields_0_2_1002_1020 n true a1 (a1.length : Int) 0
          else
            some false
        else
          some false
      else
        some false
    else
      some false := by kernel_rfl
theorem L_impl_ygoodFields_0_2_1002_1020_eq (n : Nat) (x1 : Bool) (x2 : (List DValue)) (x3 : Int) (x4 : Int) : L_impl_ygoodFields_0_2_1002_1020 (n + 1) x1 x2 x3 x4 =
    bif decide (x4 < x3) then
      bif inB x4 x2.length then
        bif decide ((rd x2 x4 (Ty.dflt TyValue)).1 = 3) then
          bif x1 then
            some (!decide ((0 : Int) ≤ x4))
          else
            some false
        else
          Option.bind (P_impl_GoodValue (rd x2 x4 (Ty.dflt TyValue))) fun (y3 : Bool) =>
          bif !(y3) then
            bif x1 then
              some (!decide ((0 : Int) ≤ x4))
            else
              some false
          else
            L_impl_ygoodFields_0_2_1002_1020 n x1 x2 x3 (IntKind.wrap .i64 (x4 + 1))
      else none
    else
      bif x1 then
        some true
      else
        some false := by kernel_rfl
theorem S_impl_ygoodFields_0_2_1002_1020 {x2 : (List DValue)} (hl : x2.length ≤ maxLen) : ∀ (rest : List DValue) (k : Nat) (r : Bool), rest = x2.drop k → P_impl_ygoodFields_0_2_1002_1020 rest k = some r → Ev (fun n => L_impl_ygoodFields_0_2_1002_1020 n true x2 (x2.length : Int) (k : Int)) r := by
  intro rest
  induction rest with
  | nil =>
    intro k r hr h
    have hk := drop_nil hr
    rw [P_impl_ygoodFields_0_2_1002_1020] at h
    refine Ev.step ?_ (fun n => L_impl_ygoodFields_0_2_1002_1020_eq n true x2 (x2.length : Int) (k : Int))
    rw [show decide ((k : Int) < (x2.length : Int)) = false from decide_eq_false (by omega)]
    exact Ev.neg rfl (Ev.pos rfl (Ev.ofSome h))
  | cons e rest ih =>
    intro k r hr h
    obtain ⟨hk, hx, hr2⟩ := drop_cons (d := (Ty.dflt TyValue)) hr
    have hw := wrap_succ hl hk
    have ih2 : ∀ (r : Bool), P_impl_ygoodFields_0_2_1002_1020 rest (k + 1) = some r → Ev (fun n => L_impl_ygoodFields_0_2_1002_1020 n true x2 (x2.length : Int) (IntKind.wrap .i64 ((k : Int) + 1))) r := by
      intro r h; rw [hw]; exact ih (k + 1) r hr2 h
    rw [P_impl_ygoodFields_0_2_1002_1020] at h
    refine Ev.step ?_ (fun n => L_impl_ygoodFields_0_2_1002_1020_eq n true x2 (x2.length : Int) (k : Int))
    rw [show decide ((k : Int) < (x2.length : Int)) = true from decide_eq_true (by omega), inB_nat2 hk, hx]
    exact Ev.pos rfl (Ev.pos rfl (Ev.ofBif h (fun h => (Ev.pos rfl (Ev.ofSome h))) (fun h => (Ev.ofBind h fun y3 h => (Ev.ofBif h (fun h => (Ev.pos rfl (Ev.ofSome h))) (fun h => (ih2  _ h)))))))
theorem S_impl_ygoodFields (a0 : (List (List Int))) (a1 : (List DValue)) {r : Bool} (h : P_impl_ygoodFields a0 a1 = some r) : Ev (fun n => F_impl_ygoodFields n a0 a1) r := by
  rw [P_impl_ygoodFields] at h
  refine Ev.of_eq ?_ (fun n => F_impl_ygoodFields_eq n a0 a1)
  exact (Ev.ofBif h (fun h => (Ev.ofBif h (fun h => (Ev.ofBind h fun y1 h => (Ev.ofBif h (fun h => (Ev.ofBind h fun y2 h => (Ev.ofBif h (fun h => (Ev.ofLen h fun hl h => S_impl_ygoodFields_0_2_1002_1020 hl _ (0 : Nat) _ rfl h)) (fun h => (Ev.ofSome h))))) (fun h => (Ev.ofSome h))))) (fun h => (Ev.ofSome h)))) (fun h => (Ev.ofSome h)))
theorem hcs_impl_ygoodFields : ∀ x ∈ cs_impl_ygoodFields, CtrOk Try.prog x := (conOf_cons ok_impl_yallNames (conOf_cons ok_impl_yrising (conOf_cons ok_impl_GoodValue conOf_nil)))
theorem ok_impl_ygoodFields : CtrOk Try.prog c_impl_ygoodFields := by
  refine ctr_of_run (c := c_impl_ygoodFields) (by kernel_rfl : Try.prog.funcs[52]? = some Try.f52) (code := Try.f52.body.getD .skip) (by kernel_rfl) (by kernel_rfl) (by kernel_rfl) (A := A_impl_ygoodFields) (I := In_impl_ygoodFields) hcs_impl_ygoodFields ?_
  rintro ⟨a0, a1, u⟩ y hy
  exact (S_impl_ygoodFields a0 a1 hy).get

/-! ## impl.GoodRequest (14) -/
noncomputable def P_impl_GoodRequest (a0 : DRequest) : Option Bool :=
  Option.bind (P_impl_ygoodRef a0.1) fun (y1 : Bool) =>
  bif y1 then
    Option.bind (P_impl_ygoodRef a0.2.1) fun (y2 : Bool) =>
    bif y2 then
      Option.bind (P_impl_ygoodRef a0.2.2.1) fun (y3 : Bool) =>
      bif y3 then
        Option.bind (P_impl_ygoodFields a0.2.2.2.1 a0.2.2.2.2) fun (y4 : Bool) =>
        some y4
      else
        some false
    else
      some false
  else
    some false
noncomputable def c_impl_GoodRequest : Ctr := ⟨14, [TyRequest], [.bool], fun x => P_impl_GoodRequest x.1⟩
def A_impl_GoodRequest : List (List Nat × Ann) := []
def In_impl_GoodRequest : List (List Nat × Nat) := []
noncomputable def cs_impl_GoodRequest : List Ctr := [c_impl_ygoodRef, c_impl_ygoodFields]
noncomputable def F_impl_GoodRequest (n : Nat) (a0 : DRequest) : Option Bool := run Try.prog A_impl_GoodRequest In_impl_GoodRequest (conOf cs_impl_GoodRequest) Try.f14 (Try.f14.body.getD .skip) (packT [.bool]) n (argsV [TyRequest] (a0, ()))
theorem F_impl_GoodRequest_eq (n : Nat) (a0 : DRequest) : F_impl_GoodRequest n a0 =
    Option.bind (P_impl_ygoodRef a0.1) fun (y1 : Bool) =>
    bif y1 then
      Option.bind (P_impl_ygoodRef a0.2.1) fun (y2 : Bool) =>
      bif y2 then
        Option.bind (P_impl_ygoodRef a0.2.2.1) fun (y3 : Bool) =>
        bif y3 then
          Option.bind (P_impl_ygoodFields a0.2.2.2.1 a0.2.2.2.2) fun (y4 : Bool) =>
          some y4
        else
          some false
      else
        some false
    else
      some false := by kernel_rfl
theorem S_impl_GoodRequest (a0 : DRequest) {r : Bool} (h : P_impl_GoodRequest a0 = some r) : Ev (fun n => F_impl_GoodRequest n a0) r := by
  rw [P_impl_GoodRequest] at h
  refine Ev.of_eq ?_ (fun n => F_impl_GoodRequest_eq n a0)
  exact (Ev.ofBind h fun y1 h => (Ev.ofBif h (fun h => (Ev.ofBind h fun y2 h => (Ev.ofBif h (fun h => (Ev.ofBind h fun y3 h => (Ev.ofBif h (fun h => (Ev.ofBind h fun y4 h => (Ev.ofSome h))) (fun h => (Ev.ofSome h))))) (fun h => (Ev.ofSome h))))) (fun h => (Ev.ofSome h))))
theorem hcs_impl_GoodRequest : ∀ x ∈ cs_impl_GoodRequest, CtrOk Try.prog x := (conOf_cons ok_impl_ygoodRef (conOf_cons ok_impl_ygoodFields conOf_nil))
theorem ok_impl_GoodRequest : CtrOk Try.prog c_impl_GoodRequest := by
  refine ctr_of_run (c := c_impl_GoodRequest) (by kernel_rfl : Try.prog.funcs[14]? = some Try.f14) (code := Try.f14.body.getD .skip) (by kernel_rfl) (by kernel_rfl) (by kernel_rfl) (A := A_impl_GoodRequest) (I := In_impl_GoodRequest) hcs_impl_GoodRequest ?_
  rintro ⟨a0, u⟩ y hy
  exact (S_impl_GoodRequest a0 hy).get

/-! ## laws.szAtom (45) -/
noncomputable def c_laws_szAtom : Ctr := ⟨45, [TyAtom, I64], [I64], fun x => szC TyAtom x.1 x.2.1⟩
def A_laws_szAtom : List (List Nat × Ann) := []
def In_laws_szAtom : List (List Nat × Nat) := []
noncomputable def cs_laws_szAtom : List Ctr := []
noncomputable def F_laws_szAtom (n : Nat) (a0 : DAtom) (a1 : Int) : Option Int := run Try.prog A_laws_szAtom In_laws_szAtom (conOf cs_laws_szAtom) Try.f45 (Try.f45.body.getD .skip) (packT [I64]) n (argsV [TyAtom, I64] (a0, a1, ()))
theorem F_laws_szAtom_eq (n : Nat) (a0 : DAtom) (a1 : Int) : F_laws_szAtom n a0 a1 =
    bif decide (IntKind.wrap .i64 (a1 - (a0.2.2.1.length : Int)) < 0) then
      some (-1)
    else
      bif decide (IntKind.wrap .i64 ((IntKind.wrap .i64 (a1 - (a0.2.2.1.length : Int))) - (a0.2.2.2.length : Int)) < 0) then
        some (-1)
      else
        some (IntKind.wrap .i64 ((IntKind.wrap .i64 (a1 - (a0.2.2.1.length : Int))) - (a0.2.2.2.length : Int))) := by kernel_rfl
theorem mk_laws_szAtom (hcs : ∀ x ∈ cs_laws_szAtom, CtrOk Try.prog x) (h : ∀ (a0 : DAtom) (a1 : Int) y, szC TyAtom a0 a1 = some y → ∃ n, F_laws_szAtom n a0 a1 = some y) : CtrOk Try.prog c_laws_szAtom := by
  refine ctr_of_run (c := c_laws_szAtom) (by kernel_rfl : Try.prog.funcs[45]? = some Try.f45) (code := Try.f45.body.getD .skip) (by kernel_rfl) (by kernel_rfl) (by kernel_rfl) (A := A_laws_szAtom) (I := In_laws_szAtom) hcs ?_
  rintro ⟨a0, a1, u⟩ y hy
  exact h a0 a1 y hy

theorem hcs_laws_szAtom : ∀ x ∈ cs_laws_szAtom, CtrOk Try.prog x := conOf_nil
theorem ok_laws_szAtom : CtrOk Try.prog c_laws_szAtom := mk_laws_szAtom hcs_laws_szAtom fun a0 a1 y hy => by
  obtain ⟨hw, h0, h1, rfl⟩ := szC_inv hy
  have hw2 : wfD I64 a0.1 ∧ wfD I64 a0.2.1 ∧ wfD .str a0.2.2.1 ∧ wfD .str a0.2.2.2 := hw
  have hsz : Ty.size TyAtom a0 = Ty.size I64 a0.1 + (Ty.size I64 a0.2.1 + (Ty.size .str a0.2.2.1 + (Ty.size .str a0.2.2.2))) := rfl
  have z0 : Ty.size I64 a0.1 = 0 := rfl
  have z1 : Ty.size I64 a0.2.1 = 0 := rfl
  have z2 : Ty.size .str a0.2.2.1 = a0.2.2.1.length := rfl
  have z3 : Ty.size .str a0.2.2.2 = a0.2.2.2.length := rfl
  refine ⟨0, ?_⟩
  rw [F_laws_szAtom_eq, hsz]
  have hn2 : a0.2.2.1.length ≤ maxLen := by have := (hw2.2.2.1).1; unfold maxLen; omega
  rw [lessZ_wrap (left := a1) (n := a0.2.2.1.length) (by omega) (by omega) hn2]
  rcases Int.lt_or_le (a1) (a0.2.2.1.length : Int) with h | h
  · rw [decide_eq_true (show (a1 - (a0.2.2.1.length : Int)) < 0 by omega)]; simp only [cond_true]; unfold lessZ; rw [if_neg (by omega)]
  rw [decide_eq_false (show ¬ (a1 - (a0.2.2.1.length : Int)) < 0 by omega)]; simp only [cond_false]
  have h_2 := h; clear h
  have hn3 : a0.2.2.2.length ≤ maxLen := by have := (hw2.2.2.2).1; unfold maxLen; omega
  rw [lessZ_wrap (left := (a1 - (a0.2.2.1.length : Int))) (n := a0.2.2.2.length) (by omega) (by omega) hn3]
  rcases Int.lt_or_le ((a1 - (a0.2.2.1.length : Int))) (a0.2.2.2.length : Int) with h | h
  · rw [decide_eq_true (show ((a1 - (a0.2.2.1.length : Int)) - (a0.2.2.2.length : Int)) < 0 by omega)]; simp only [cond_true]; unfold lessZ; rw [if_neg (by omega)]
  rw [decide_eq_false (show ¬ ((a1 - (a0.2.2.1.length : Int)) - (a0.2.2.2.length : Int)) < 0 by omega)]; simp only [cond_false]
  have h_3 := h; clear h
  unfold lessZ; rw [if_pos (by omega)]; congr 1; omega
/-! ## laws.szStringS (23) -/
noncomputable def c_laws_szStringS : Ctr := ⟨23, [(.list .str), I64], [I64], fun x => szC (.list .str) x.1 x.2.1⟩
def A_laws_szStringS : List (List Nat × Ann) := [([0, 5], [.keep 0 0, .keep 0 1, .keep 0 5])]
def In_laws_szStringS : List (List Nat × Nat) := []
noncomputable def cs_laws_szStringS : List Ctr := []
noncomputable def F_laws_szStringS (n : Nat) (a0 : (List (List Int))) (a1 : Int) : Option Int := run Try.prog A_laws_szStringS In_laws_szStringS (conOf cs_laws_szStringS) Try.f23 (Try.f23.body.getD .skip) (packT [I64]) n (argsV [(.list .str), I64] (a0, a1, ()))
noncomputable abbrev L_laws_szStringS_0_5 (n : Nat) (x1 : (List (List Int))) (x2 : Int) (x3 : Int) : Option Int := lam Try.prog A_laws_szStringS In_laws_szStringS (conOf cs_laws_szStringS) Try.f23 (Try.f23.body.getD .skip) (packT [I64]) n [0, 5] [.d (.list .str) x1, .d I64 x2, .d I64 x3]
theorem F_laws_szStringS_eq (n : Nat) (a0 : (List (List Int))) (a1 : Int) : F_laws_szStringS n a0 a1 =
    bif decide (IntKind.wrap .i64 (a1 - (a0.length : Int)) < 0) then
      some (-1)
    else
      L_laws_szStringS_0_5 n a0 (IntKind.wrap .i64 (a1 - (a0.length : Int))) 0 := by kernel_rfl
theorem L_laws_szStringS_0_5_eq (n : Nat) (x1 : (List (List Int))) (x2 : Int) (x3 : Int) : L_laws_szStringS_0_5 (n + 1) x1 x2 x3 =
    bif decide (x3 < (x1.length : Int)) then
      bif inB x3 x1.length then
        bif decide (IntKind.wrap .i64 (x2 - ((rd x1 x3 (Ty.dflt .str)).length : Int)) < 0) then
          some (-1)
        else
          L_laws_szStringS_0_5 n x1 (IntKind.wrap .i64 (x2 - ((rd x1 x3 (Ty.dflt .str)).length : Int))) (IntKind.wrap .i64 (x3 + 1))
      else none
    else
      some x2 := by kernel_rfl
theorem mk_laws_szStringS (hcs : ∀ x ∈ cs_laws_szStringS, CtrOk Try.prog x) (h : ∀ (a0 : (List (List Int))) (a1 : Int) y, szC (.list .str) a0 a1 = some y → ∃ n, F_laws_szStringS n a0 a1 = some y) : CtrOk Try.prog c_laws_szStringS := by
  refine ctr_of_run (c := c_laws_szStringS) (by kernel_rfl : Try.prog.funcs[23]? = some Try.f23) (code := Try.f23.body.getD .skip) (by kernel_rfl) (by kernel_rfl) (by kernel_rfl) (A := A_laws_szStringS) (I := In_laws_szStringS) hcs ?_
  rintro ⟨a0, a1, u⟩ y hy
  exact h a0 a1 y hy

theorem hcs_laws_szStringS : ∀ x ∈ cs_laws_szStringS, CtrOk Try.prog x := conOf_nil
theorem ok_laws_szStringS : CtrOk Try.prog c_laws_szStringS := mk_laws_szStringS hcs_laws_szStringS fun a0 a1 y hy => by
  obtain ⟨n, hn⟩ := szS_str (fun n xs s i => L_laws_szStringS_0_5_eq n xs s i) hy
  exact ⟨n, (F_laws_szStringS_eq n a0 a1).trans hn⟩
/-! ## laws.szAtomS (88) -/
noncomputable def c_laws_szAtomS : Ctr := ⟨88, [(.list TyAtom), I64], [I64], fun x => szC (.list TyAtom) x.1 x.2.1⟩
def A_laws_szAtomS : List (List Nat × Ann) := [([0, 5], [.keep 0 0, .keep 0 1, .keep 0 5])]
def In_laws_szAtomS : List (List Nat × Nat) := []
noncomputable def cs_laws_szAtomS : List Ctr := [c_laws_szAtom]
noncomputable def F_laws_szAtomS (n : Nat) (a0 : (List DAtom)) (a1 : Int) : Option Int := run Try.prog A_laws_szAtomS In_laws_szAtomS (conOf cs_laws_szAtomS) Try.f88 (Try.f88.body.getD .skip) (packT [I64]) n (argsV [(.list TyAtom), I64] (a0, a1, ()))
noncomputable abbrev L_laws_szAtomS_0_5 (n : Nat) (x1 : (List DAtom)) (x2 : Int) (x3 : Int) : Option Int := lam Try.prog A_laws_szAtomS In_laws_szAtomS (conOf cs_laws_szAtomS) Try.f88 (Try.f88.body.getD .skip) (packT [I64]) n [0, 5] [.d (.list TyAtom) x1, .d I64 x2, .d I64 x3]
theorem F_laws_szAtomS_eq (n : Nat) (a0 : (List DAtom)) (a1 : Int) : F_laws_szAtomS n a0 a1 =
    bif decide (IntKind.wrap .i64 (a1 - (a0.length : Int)) < 0) then
      some (-1)
    else
      L_laws_szAtomS_0_5 n a0 (IntKind.wrap .i64 (a1 - (a0.length : Int))) 0 := by kernel_rfl
theorem L_laws_szAtomS_0_5_eq (n : Nat) (x1 : (List DAtom)) (x2 : Int) (x3 : Int) : L_laws_szAtomS_0_5 (n + 1) x1 x2 x3 =
    bif decide (x3 < (x1.length : Int)) then
      bif inB x3 x1.length then
        Option.bind (szC TyAtom (rd x1 x3 (Ty.dflt TyAtom)) x2) fun (y1 : Int) =>
        bif decide (y1 < 0) then
          some (-1)
        else
          L_laws_szAtomS_0_5 n x1 y1 (IntKind.wrap .i64 (x3 + 1))
      else none
    else
      some x2 := by kernel_rfl
theorem mk_laws_szAtomS (hcs : ∀ x ∈ cs_laws_szAtomS, CtrOk Try.prog x) (h : ∀ (a0 : (List DAtom)) (a1 : Int) y, szC (.list TyAtom) a0 a1 = some y → ∃ n, F_laws_szAtomS n a0 a1 = some y) : CtrOk Try.prog c_laws_szAtomS := by
  refine ctr_of_run (c := c_laws_szAtomS) (by kernel_rfl : Try.prog.funcs[88]? = some Try.f88) (code := Try.f88.body.getD .skip) (by kernel_rfl) (by kernel_rfl) (by kernel_rfl) (A := A_laws_szAtomS) (I := In_laws_szAtomS) hcs ?_
  rintro ⟨a0, a1, u⟩ y hy
  exact h a0 a1 y hy

theorem hcs_laws_szAtomS : ∀ x ∈ cs_laws_szAtomS, CtrOk Try.prog x := (conOf_cons ok_laws_szAtom conOf_nil)
theorem ok_laws_szAtomS : CtrOk Try.prog c_laws_szAtomS := mk_laws_szAtomS hcs_laws_szAtomS fun a0 a1 y hy => by
  obtain ⟨n, hn⟩ := szS_call (fun n xs s i => L_laws_szAtomS_0_5_eq n xs s i) hy
  exact ⟨n, (F_laws_szAtomS_eq n a0 a1).trans hn⟩
/-! ## laws.szValue (79) -/
noncomputable def c_laws_szValue : Ctr := ⟨79, [TyValue, I64], [I64], fun x => szC TyValue x.1 x.2.1⟩
def A_laws_szValue : List (List Nat × Ann) := []
def In_laws_szValue : List (List Nat × Nat) := []
noncomputable def cs_laws_szValue : List Ctr := [c_laws_szAtom, c_laws_szAtomS, c_laws_szStringS]
noncomputable def F_laws_szValue (n : Nat) (a0 : DValue) (a1 : Int) : Option Int := run Try.prog A_laws_szValue In_laws_szValue (conOf cs_laws_szValue) Try.f79 (Try.f79.body.getD .skip) (packT [I64]) n (argsV [TyValue, I64] (a0, a1, ()))
theorem F_laws_szValue_eq (n : Nat) (a0 : DValue) (a1 : Int) : F_laws_szValue n a0 a1 =
    Option.bind (szC TyAtom a0.2.1 a1) fun (y1 : Int) =>
    bif decide (y1 < 0) then
      some (-1)
    else
      Option.bind (szC (.list TyAtom) a0.2.2.1 y1) fun (y2 : Int) =>
      bif decide (y2 < 0) then
        some (-1)
      else
        Option.bind (szC (.list .str) a0.2.2.2 y2) fun (y3 : Int) =>
        bif decide (y3 < 0) then
          some (-1)
        else
          some y3 := by kernel_rfl
theorem mk_laws_szValue (hcs : ∀ x ∈ cs_laws_szValue, CtrOk Try.prog x) (h : ∀ (a0 : DValue) (a1 : Int) y, szC TyValue a0 a1 = some y → ∃ n, F_laws_szValue n a0 a1 = some y) : CtrOk Try.prog c_laws_szValue := by
  refine ctr_of_run (c := c_laws_szValue) (by kernel_rfl : Try.prog.funcs[79]? = some Try.f79) (code := Try.f79.body.getD .skip) (by kernel_rfl) (by kernel_rfl) (by kernel_rfl) (A := A_laws_szValue) (I := In_laws_szValue) hcs ?_
  rintro ⟨a0, a1, u⟩ y hy
  exact h a0 a1 y hy

theorem hcs_laws_szValue : ∀ x ∈ cs_laws_szValue, CtrOk Try.prog x := (conOf_cons ok_laws_szAtom (conOf_cons ok_laws_szAtomS (conOf_cons ok_laws_szStringS conOf_nil)))
theorem ok_laws_szValue : CtrOk Try.prog c_laws_szValue := mk_laws_szValue hcs_laws_szValue fun a0 a1 y hy => by
  obtain ⟨hw, h0, h1, rfl⟩ := szC_inv hy
  have hw2 : wfD I64 a0.1 ∧ wfD TyAtom a0.2.1 ∧ wfD (.list TyAtom) a0.2.2.1 ∧ wfD (.list .str) a0.2.2.2 := hw
  have hsz : Ty.size TyValue a0 = Ty.size I64 a0.1 + (Ty.size TyAtom a0.2.1 + (Ty.size (.list TyAtom) a0.2.2.1 + (Ty.size (.list .str) a0.2.2.2))) := rfl
  have z0 : Ty.size I64 a0.1 = 0 := rfl
  refine ⟨0, ?_⟩
  rw [F_laws_szValue_eq, hsz]
  rw [szC_some hw2.2.1 (show 0 ≤ a1 by omega) (by omega)]
  simp only [Option.bind_some]
  rcases Int.lt_or_le (a1) ((Ty.size TyAtom a0.2.1 : Nat) : Int) with h | h
  · rw [show lessZ (a1) (Ty.size TyAtom a0.2.1) = -1 by unfold lessZ; rw [if_neg (by omega)]]; rw [decide_eq_true (show (-1 : Int) < 0 by omega)]; simp only [cond_true]; unfold lessZ; rw [if_neg (by omega)]
  rw [show lessZ (a1) (Ty.size TyAtom a0.2.1) = (a1 - ((Ty.size TyAtom a0.2.1 : Nat) : Int)) by unfold lessZ; rw [if_pos h]]; rw [decide_eq_false (show ¬ (a1 - ((Ty.size TyAtom a0.2.1 : Nat) : Int)) < 0 by omega)]; simp only [cond_false]
  have h_1 := h; clear h
  rw [szC_some hw2.2.2.1 (show 0 ≤ (a1 - ((Ty.size TyAtom a0.2.1 : Nat) : Int)) by omega) (by omega)]
  simp only [Option.bind_some]
  rcases Int.lt_or_le ((a1 - ((Ty.size TyAtom a0.2.1 : Nat) : Int))) ((Ty.size (.list TyAtom) a0.2.2.1 : Nat) : Int) with h | h
  · rw [show lessZ ((a1 - ((Ty.size TyAtom a0.2.1 : Nat) : Int))) (Ty.size (.list TyAtom) a0.2.2.1) = -1 by unfold lessZ; rw [if_neg (by omega)]]; rw [decide_eq_true (show (-1 : Int) < 0 by omega)]; simp only [cond_true]; unfold lessZ; rw [if_neg (by omega)]
  rw [show lessZ ((a1 - ((Ty.size TyAtom a0.2.1 : Nat) : Int))) (Ty.size (.list TyAtom) a0.2.2.1) = ((a1 - ((Ty.size TyAtom a0.2.1 : Nat) : Int)) - ((Ty.size (.list TyAtom) a0.2.2.1 : Nat) : Int)) by unfold lessZ; rw [if_pos h]]; rw [decide_eq_false (show ¬ ((a1 - ((Ty.size TyAtom a0.2.1 : Nat) : Int)) - ((Ty.size (.list TyAtom) a0.2.2.1 : Nat) : Int)) < 0 by omega)]; simp only [cond_false]
  have h_2 := h; clear h
  rw [szC_some hw2.2.2.2 (show 0 ≤ ((a1 - ((Ty.size TyAtom a0.2.1 : Nat) : Int)) - ((Ty.size (.list TyAtom) a0.2.2.1 : Nat) : Int)) by omega) (by omega)]
  simp only [Option.bind_some]
  rcases Int.lt_or_le (((a1 - ((Ty.size TyAtom a0.2.1 : Nat) : Int)) - ((Ty.size (.list TyAtom) a0.2.2.1 : Nat) : Int))) ((Ty.size (.list .str) a0.2.2.2 : Nat) : Int) with h | h
  · rw [show lessZ (((a1 - ((Ty.size TyAtom a0.2.1 : Nat) : Int)) - ((Ty.size (.list TyAtom) a0.2.2.1 : Nat) : Int))) (Ty.size (.list .str) a0.2.2.2) = -1 by unfold lessZ; rw [if_neg (by omega)]]; rw [decide_eq_true (show (-1 : Int) < 0 by omega)]; simp only [cond_true]; unfold lessZ; rw [if_neg (by omega)]
  rw [show lessZ (((a1 - ((Ty.size TyAtom a0.2.1 : Nat) : Int)) - ((Ty.size (.list TyAtom) a0.2.2.1 : Nat) : Int))) (Ty.size (.list .str) a0.2.2.2) = (((a1 - ((Ty.size TyAtom a0.2.1 : Nat) : Int)) - ((Ty.size (.list TyAtom) a0.2.2.1 : Nat) : Int)) - ((Ty.size (.list .str) a0.2.2.2 : Nat) : Int)) by unfold lessZ; rw [if_pos h]]; rw [decide_eq_false (show ¬ (((a1 - ((Ty.size TyAtom a0.2.1 : Nat) : Int)) - ((Ty.size (.list TyAtom) a0.2.2.1 : Nat) : Int)) - ((Ty.size (.list .str) a0.2.2.2 : Nat) : Int)) < 0 by omega)]; simp only [cond_false]
  have h_3 := h; clear h
  unfold lessZ; rw [if_pos (by omega)]; congr 1; omega
/-! ## laws.szValueS (46) -/
noncomputable def c_laws_szValueS : Ctr := ⟨46, [(.list TyValue), I64], [I64], fun x => szC (.list TyValue) x.1 x.2.1⟩
def A_laws_szValueS : List (List Nat × Ann) := [([0, 5], [.keep 0 0, .keep 0 1, .keep 0 5])]
def In_laws_szValueS : List (List Nat × Nat) := []
noncomputable def cs_laws_szValueS : List Ctr := [c_laws_szValue]
noncomputable def F_laws_szValueS (n : Nat) (a0 : (List DValue)) (a1 : Int) : Option Int := run Try.prog A_laws_szValueS In_laws_szValueS (conOf cs_laws_szValueS) Try.f46 (Try.f46.body.getD .skip) (packT [I64]) n (argsV [(.list TyValue), I64] (a0, a1, ()))
noncomputable abbrev L_laws_szValueS_0_5 (n : Nat) (x1 : (List DValue)) (x2 : Int) (x3 : Int) : Option Int := lam Try.prog A_laws_szValueS In_laws_szValueS (conOf cs_laws_szValueS) Try.f46 (Try.f46.body.getD .skip) (packT [I64]) n [0, 5] [.d (.list TyValue) x1, .d I64 x2, .d I64 x3]
theorem F_laws_szValueS_eq (n : Nat) (a0 : (List DValue)) (a1 : Int) : F_laws_szValueS n a0 a1 =
    bif decide (IntKind.wrap .i64 (a1 - (a0.length : Int)) < 0) then
      some (-1)
    else
      L_laws_szValueS_0_5 n a0 (IntKind.wrap .i64 (a1 - (a0.length : Int))) 0 := by kernel_rfl
theorem L_laws_szValueS_0_5_eq (n : Nat) (x1 : (List DValue)) (x2 : Int) (x3 : Int) : L_laws_szValueS_0_5 (n + 1) x1 x2 x3 =
    bif decide (x3 < (x1.length : Int)) then
      bif inB x3 x1.length then
        Option.bind (szC TyValue (rd x1 x3 (Ty.dflt TyValue)) x2) fun (y1 : Int) =>
        bif decide (y1 < 0) then
          some (-1)
        else
          L_laws_szValueS_0_5 n x1 y1 (IntKind.wrap .i64 (x3 + 1))
      else none
    else
      some x2 := by kernel_rfl
theorem mk_laws_szValueS (hcs : ∀ x ∈ cs_laws_szValueS, CtrOk Try.prog x) (h : ∀ (a0 : (List DValue)) (a1 : Int) y, szC (.list TyValue) a0 a1 = some y → ∃ n, F_laws_szValueS n a0 a1 = some y) : CtrOk Try.prog c_laws_szValueS := by
  refine ctr_of_run (c := c_laws_szValueS) (by kernel_rfl : Try.prog.funcs[46]? = some Try.f46) (code := Try.f46.body.getD .skip) (by kernel_rfl) (by kernel_rfl) (by kernel_rfl) (A := A_laws_szValueS) (I := In_laws_szValueS) hcs ?_
  rintro ⟨a0, a1, u⟩ y hy
  exact h a0 a1 y hy

theorem hcs_laws_szValueS : ∀ x ∈ cs_laws_szValueS, CtrOk Try.prog x := (conOf_cons ok_laws_szValue conOf_nil)
theorem ok_laws_szValueS : CtrOk Try.prog c_laws_szValueS := mk_laws_szValueS hcs_laws_szValueS fun a0 a1 y hy => by
  obtain ⟨n, hn⟩ := szS_call (fun n xs s i => L_laws_szValueS_0_5_eq n xs s i) hy
  exact ⟨n, (F_laws_szValueS_eq n a0 a1).trans hn⟩
/-! ## laws.szRequest (11) -/
noncomputable def c_laws_szRequest : Ctr := ⟨11, [TyRequest, I64], [I64], fun x => szC TyRequest x.1 x.2.1⟩
def A_laws_szRequest : List (List Nat × Ann) := []
def In_laws_szRequest : List (List Nat × Nat) := []
noncomputable def cs_laws_szRequest : List Ctr := [c_laws_szAtom, c_laws_szStringS, c_laws_szValueS]
noncomputable def F_laws_szRequest (n : Nat) (a0 : DRequest) (a1 : Int) : Option Int := run Try.prog A_laws_szRequest In_laws_szRequest (conOf cs_laws_szRequest) Try.f11 (Try.f11.body.getD .skip) (packT [I64]) n (argsV [TyRequest, I64] (a0, a1, ()))
theorem F_laws_szRequest_eq (n : Nat) (a0 : DRequest) (a1 : Int) : F_laws_szRequest n a0 a1 =
    Option.bind (szC TyAtom a0.1 a1) fun (y1 : Int) =>
    bif decide (y1 < 0) then
      some (-1)
    else
      Option.bind (szC TyAtom a0.2.1 y1) fun (y2 : Int) =>
      bif decide (y2 < 0) then
        some (-1)
      else
        Option.bind (szC TyAtom a0.2.2.1 y2) fun (y3 : Int) =>
        bif decide (y3 < 0) then
          some (-1)
        else
          Option.bind (szC (.list .str) a0.2.2.2.1 y3) fun (y4 : Int) =>
          bif decide (y4 < 0) then
            some (-1)
          else
            Option.bind (szC (.list TyValue) a0.2.2.2.2 y4) fun (y5 : Int) =>
            bif decide (y5 < 0) then
              some (-1)
            else
              some y5 := by kernel_rfl
theorem mk_laws_szRequest (hcs : ∀ x ∈ cs_laws_szRequest, CtrOk Try.prog x) (h : ∀ (a0 : DRequest) (a1 : Int) y, szC TyRequest a0 a1 = some y → ∃ n, F_laws_szRequest n a0 a1 = some y) : CtrOk Try.prog c_laws_szRequest := by
  refine ctr_of_run (c := c_laws_szRequest) (by kernel_rfl : Try.prog.funcs[11]? = some Try.f11) (code := Try.f11.body.getD .skip) (by kernel_rfl) (by kernel_rfl) (by kernel_rfl) (A := A_laws_szRequest) (I := In_laws_szRequest) hcs ?_
  rintro ⟨a0, a1, u⟩ y hy
  exact h a0 a1 y hy

theorem hcs_laws_szRequest : ∀ x ∈ cs_laws_szRequest, CtrOk Try.prog x := (conOf_cons ok_laws_szAtom (conOf_cons ok_laws_szStringS (conOf_cons ok_laws_szValueS conOf_nil)))
theorem ok_laws_szRequest : CtrOk Try.prog c_laws_szRequest := mk_laws_szRequest hcs_laws_szRequest fun a0 a1 y hy => by
  obtain ⟨hw, h0, h1, rfl⟩ := szC_inv hy
  have hw2 : wfD TyAtom a0.1 ∧ wfD TyAtom a0.2.1 ∧ wfD TyAtom a0.2.2.1 ∧ wfD (.list .str) a0.2.2.2.1 ∧ wfD (.list TyValue) a0.2.2.2.2 := hw
  have hsz : Ty.size TyRequest a0 = Ty.size TyAtom a0.1 + (Ty.size TyAtom a0.2.1 + (Ty.size TyAtom a0.2.2.1 + (Ty.size (.list .str) a0.2.2.2.1 + (Ty.size (.list TyValue) a0.2.2.2.2)))) := rfl
  refine ⟨0, ?_⟩
  rw [F_laws_szRequest_eq, hsz]
  rw [szC_some hw2.1 (show 0 ≤ a1 by omega) (by omega)]
  simp only [Option.bind_some]
  rcases Int.lt_or_le (a1) ((Ty.size TyAtom a0.1 : Nat) : Int) with h | h
  · rw [show lessZ (a1) (Ty.size TyAtom a0.1) = -1 by unfold lessZ; rw [if_neg (by omega)]]; rw [decide_eq_true (show (-1 : Int) < 0 by omega)]; simp only [cond_true]; unfold lessZ; rw [if_neg (by omega)]
  rw [show lessZ (a1) (Ty.size TyAtom a0.1) = (a1 - ((Ty.size TyAtom a0.1 : Nat) : Int)) by unfold lessZ; rw [if_pos h]]; rw [decide_eq_false (show ¬ (a1 - ((Ty.size TyAtom a0.1 : Nat) : Int)) < 0 by omega)]; simp only [cond_false]
  have h_0 := h; clear h
  rw [szC_some hw2.2.1 (show 0 ≤ (a1 - ((Ty.size TyAtom a0.1 : Nat) : Int)) by omega) (by omega)]
  simp only [Option.bind_some]
  rcases Int.lt_or_le ((a1 - ((Ty.size TyAtom a0.1 : Nat) : Int))) ((Ty.size TyAtom a0.2.1 : Nat) : Int) with h | h
  · rw [show lessZ ((a1 - ((Ty.size TyAtom a0.1 : Nat) : Int))) (Ty.size TyAtom a0.2.1) = -1 by unfold lessZ; rw [if_neg (by omega)]]; rw [decide_eq_true (show (-1 : Int) < 0 by omega)]; simp only [cond_true]; unfold lessZ; rw [if_neg (by omega)]
  rw [show lessZ ((a1 - ((Ty.size TyAtom a0.1 : Nat) : Int))) (Ty.size TyAtom a0.2.1) = ((a1 - ((Ty.size TyAtom a0.1 : Nat) : Int)) - ((Ty.size TyAtom a0.2.1 : Nat) : Int)) by unfold lessZ; rw [if_pos h]]; rw [decide_eq_false (show ¬ ((a1 - ((Ty.size TyAtom a0.1 : Nat) : Int)) - ((Ty.size TyAtom a0.2.1 : Nat) : Int)) < 0 by omega)]; simp only [cond_false]
  have h_1 := h; clear h
  rw [szC_some hw2.2.2.1 (show 0 ≤ ((a1 - ((Ty.size TyAtom a0.1 : Nat) : Int)) - ((Ty.size TyAtom a0.2.1 : Nat) : Int)) by omega) (by omega)]
  simp only [Option.bind_some]
  rcases Int.lt_or_le (((a1 - ((Ty.size TyAtom a0.1 : Nat) : Int)) - ((Ty.size TyAtom a0.2.1 : Nat) : Int))) ((Ty.size TyAtom a0.2.2.1 : Nat) : Int) with h | h
  · rw [show lessZ (((a1 - ((Ty.size TyAtom a0.1 : Nat) : Int)) - ((Ty.size TyAtom a0.2.1 : Nat) : Int))) (Ty.size TyAtom a0.2.2.1) = -1 by unfold lessZ; rw [if_neg (by omega)]]; rw [decide_eq_true (show (-1 : Int) < 0 by omega)]; simp only [cond_true]; unfold lessZ; rw [if_neg (by omega)]
  rw [show lessZ (((a1 - ((Ty.size TyAtom a0.1 : Nat) : Int)) - ((Ty.size TyAtom a0.2.1 : Nat) : Int))) (Ty.size TyAtom a0.2.2.1) = (((a1 - ((Ty.size TyAtom a0.1 : Nat) : Int)) - ((Ty.size TyAtom a0.2.1 : Nat) : Int)) - ((Ty.size TyAtom a0.2.2.1 : Nat) : Int)) by unfold lessZ; rw [if_pos h]]; rw [decide_eq_false (show ¬ (((a1 - ((Ty.size TyAtom a0.1 : Nat) : Int)) - ((Ty.size TyAtom a0.2.1 : Nat) : Int)) - ((Ty.size TyAtom a0.2.2.1 : Nat) : Int)) < 0 by omega)]; simp only [cond_false]
  have h_2 := h; clear h
  rw [szC_some hw2.2.2.2.1 (show 0 ≤ (((a1 - ((Ty.size TyAtom a0.1 : Nat) : Int)) - ((Ty.size TyAtom a0.2.1 : Nat) : Int)) - ((Ty.size TyAtom a0.2.2.1 : Nat) : Int)) by omega) (by omega)]
  simp only [Option.bind_some]
  rcases Int.lt_or_le ((((a1 - ((Ty.size TyAtom a0.1 : Nat) : Int)) - ((Ty.size TyAtom a0.2.1 : Nat) : Int)) - ((Ty.size TyAtom a0.2.2.1 : Nat) : Int))) ((Ty.size (.list .str) a0.2.2.2.1 : Nat) : Int) with h | h
  · rw [show lessZ ((((a1 - ((Ty.size TyAtom a0.1 : Nat) : Int)) - ((Ty.size TyAtom a0.2.1 : Nat) : Int)) - ((Ty.size TyAtom a0.2.2.1 : Nat) : Int))) (Ty.size (.list .str) a0.2.2.2.1) = -1 by unfold lessZ; rw [if_neg (by omega)]]; rw [decide_eq_true (show (-1 : Int) < 0 by omega)]; simp only [cond_true]; unfold lessZ; rw [if_neg (by omega)]
  rw [show lessZ ((((a1 - ((Ty.size TyAtom a0.1 : Nat) : Int)) - ((Ty.size TyAtom a0.2.1 : Nat) : Int)) - ((Ty.size TyAtom a0.2.2.1 : Nat) : Int))) (Ty.size (.list .str) a0.2.2.2.1) = ((((a1 - ((Ty.size TyAtom a0.1 : Nat) : Int)) - ((Ty.size TyAtom a0.2.1 : Nat) : Int)) - ((Ty.size TyAtom a0.2.2.1 : Nat) : Int)) - ((Ty.size (.list .str) a0.2.2.2.1 : Nat) : Int)) by unfold lessZ; rw [if_pos h]]; rw [decide_eq_false (show ¬ ((((a1 - ((Ty.size TyAtom a0.1 : Nat) : Int)) - ((Ty.size TyAtom a0.2.1 : Nat) : Int)) - ((Ty.size TyAtom a0.2.2.1 : Nat) : Int)) - ((Ty.size (.list .str) a0.2.2.2.1 : Nat) : Int)) < 0 by omega)]; simp only [cond_false]
  have h_3 := h; clear h
  rw [szC_some hw2.2.2.2.2 (show 0 ≤ ((((a1 - ((Ty.size TyAtom a0.1 : Nat) : Int)) - ((Ty.size TyAtom a0.2.1 : Nat) : Int)) - ((Ty.size TyAtom a0.2.2.1 : Nat) : Int)) - ((Ty.size (.list .str) a0.2.2.2.1 : Nat) : Int)) by omega) (by omega)]
  simp only [Option.bind_some]
  rcases Int.lt_or_le (((((a1 - ((Ty.size TyAtom a0.1 : Nat) : Int)) - ((Ty.size TyAtom a0.2.1 : Nat) : Int)) - ((Ty.size TyAtom a0.2.2.1 : Nat) : Int)) - ((Ty.size (.list .str) a0.2.2.2.1 : Nat) : Int))) ((Ty.size (.list TyValue) a0.2.2.2.2 : Nat) : Int) with h | h
  · rw [show lessZ (((((a1 - ((Ty.size TyAtom a0.1 : Nat) : Int)) - ((Ty.size TyAtom a0.2.1 : Nat) : Int)) - ((Ty.size TyAtom a0.2.2.1 : Nat) : Int)) - ((Ty.size (.list .str) a0.2.2.2.1 : Nat) : Int))) (Ty.size (.list TyValue) a0.2.2.2.2) = -1 by unfold lessZ; rw [if_neg (by omega)]]; rw [decide_eq_true (show (-1 : Int) < 0 by omega)]; simp only [cond_true]; unfold lessZ; rw [if_neg (by omega)]
  rw [show lessZ (((((a1 - ((Ty.size TyAtom a0.1 : Nat) : Int)) - ((Ty.size TyAtom a0.2.1 : Nat) : Int)) - ((Ty.size TyAtom a0.2.2.1 : Nat) : Int)) - ((Ty.size (.list .str) a0.2.2.2.1 : Nat) : Int))) (Ty.size (.list TyValue) a0.2.2.2.2) = (((((a1 - ((Ty.size TyAtom a0.1 : Nat) : Int)) - ((Ty.size TyAtom a0.2.1 : Nat) : Int)) - ((Ty.size TyAtom a0.2.2.1 : Nat) : Int)) - ((Ty.size (.list .str) a0.2.2.2.1 : Nat) : Int)) - ((Ty.size (.list TyValue) a0.2.2.2.2 : Nat) : Int)) by unfold lessZ; rw [if_pos h]]; rw [decide_eq_false (show ¬ (((((a1 - ((Ty.size TyAtom a0.1 : Nat) : Int)) - ((Ty.size TyAtom a0.2.1 : Nat) : Int)) - ((Ty.size TyAtom a0.2.2.1 : Nat) : Int)) - ((Ty.size (.list .str) a0.2.2.2.1 : Nat) : Int)) - ((Ty.size (.list TyValue) a0.2.2.2.2 : Nat) : Int)) < 0 by omega)]; simp only [cond_false]
  have h_4 := h; clear h
  unfold lessZ; rw [if_pos (by omega)]; congr 1; omega
/-! ## laws.toAtom (49) -/
noncomputable def c_laws_toAtom : Ctr := ⟨49, [TyAtom], [TyAtom], fun x => toC TyAtom x.1⟩
def A_laws_toAtom : List (List Nat × Ann) := []
def In_laws_toAtom : List (List Nat × Nat) := []
noncomputable def cs_laws_toAtom : List Ctr := []
noncomputable def F_laws_toAtom (n : Nat) (a0 : DAtom) : Option DAtom := run Try.prog A_laws_toAtom In_laws_toAtom (conOf cs_laws_toAtom) Try.f49 (Try.f49.body.getD .skip) (packT [TyAtom]) n (argsV [TyAtom] (a0, ()))
theorem F_laws_toAtom_eq (n : Nat) (a0 : DAtom) : F_laws_toAtom n a0 =
    some a0 := by kernel_rfl
theorem mk_laws_toAtom (hcs : ∀ x ∈ cs_laws_toAtom, CtrOk Try.prog x) (h : ∀ (a0 : DAtom) y, toC TyAtom a0 = some y → ∃ n, F_laws_toAtom n a0 = some y) : CtrOk Try.prog c_laws_toAtom := by
  refine ctr_of_run (c := c_laws_toAtom) (by kernel_rfl : Try.prog.funcs[49]? = some Try.f49) (code := Try.f49.body.getD .skip) (by kernel_rfl) (by kernel_rfl) (by kernel_rfl) (A := A_laws_toAtom) (I := In_laws_toAtom) hcs ?_
  rintro ⟨a0, u⟩ y hy
  exact h a0 y hy

theorem hcs_laws_toAtom : ∀ x ∈ cs_laws_toAtom, CtrOk Try.prog x := conOf_nil
theorem ok_laws_toAtom : CtrOk Try.prog c_laws_toAtom := mk_laws_toAtom hcs_laws_toAtom fun a0 y hy => by
  obtain ⟨hw, hs, rfl⟩ := toC_inv hy
  have hw2 : wfD I64 y.1 ∧ wfD I64 y.2.1 ∧ wfD .str y.2.2.1 ∧ wfD .str y.2.2.2 := hw
  have hs2 : Ty.size I64 y.1 + (Ty.size I64 y.2.1 + (Ty.size .str y.2.2.1 + (Ty.size .str y.2.2.2))) ≤ 1073741824 := hs
  refine ⟨0, ?_⟩
  rw [F_laws_toAtom_eq]
  try rfl
/-! ## laws.toStringS (32) -/
noncomputable def c_laws_toStringS : Ctr := ⟨32, [(.list .str)], [(.list .str)], fun x => toC (.list .str) x.1⟩
def A_laws_toStringS : List (List Nat × Ann) := [([0, 3], [.keep 0 0, .keep 0 3, .keep 0 4, .rows 0 7 .str])]
def In_laws_toStringS : List (List Nat × Nat) := []
noncomputable def cs_laws_toStringS : List Ctr := []
noncomputable def F_laws_toStringS (n : Nat) (a0 : (List (List Int))) : Option (List (List Int)) := run Try.prog A_laws_toStringS In_laws_toStringS (conOf cs_laws_toStringS) Try.f32 (Try.f32.body.getD .skip) (packT [(.list .str)]) n (argsV [(.list .str)] (a0, ()))
noncomputable abbrev L_laws_toStringS_0_3 (n : Nat) (x1 : (List (List Int))) (x2 : Int) (x3 : (List (List Int))) : Option (List (List Int)) := lam Try.prog A_laws_toStringS In_laws_toStringS (conOf cs_laws_toStringS) Try.f32 (Try.f32.body.getD .skip) (packT [(.list .str)]) n [0, 3] [.d (.list .str) x1, .msl 0 7, .d I64 x2, .d (.list .str) x3]
theorem F_laws_toStringS_eq (n : Nat) (a0 : (List (List Int))) : F_laws_toStringS n a0 =
    bif decide ((a0.length : Int) = (a0.length : Int)) && decide ((0 : Int) ≤ (a0.length : Int)) && decide ((a0.length : Int) * 16 ≤ room) && true then
      L_laws_toStringS_0_3 n a0 0 (List.replicate (Int.toNat (a0.length : Int)) ([] : List Int))
    else none := by kernel_rfl
theorem L_laws_toStringS_0_3_eq (n : Nat) (x1 : (List (List Int))) (x2 : Int) (x3 : (List (List Int))) : L_laws_toStringS_0_3 (n + 1) x1 x2 x3 =
    bif decide (x2 < (x1.length : Int)) then
      bif inB x2 x1.length then
        bif inB x2 x3.length then
          bif inB x2 x3.length && true && true && true && true then
            L_laws_toStringS_0_3 n x1 (IntKind.wrap .i64 (x2 + 1)) (x3.set (Int.toNat x2) (rd x1 x2 (Ty.dflt .str)))
          else none
        else none
      else none
    else
      some x3 := by kernel_rfl
theorem mk_laws_toStringS (hcs : ∀ x ∈ cs_laws_toStringS, CtrOk Try.prog x) (h : ∀ (a0 : (List (List Int))) y, toC (.list .str) a0 = some y → ∃ n, F_laws_toStringS n a0 = some y) : CtrOk Try.prog c_laws_toStringS := by
  refine ctr_of_run (c := c_laws_toStringS) (by kernel_rfl : Try.prog.funcs[32]? = some Try.f32) (code := Try.f32.body.getD .skip) (by kernel_rfl) (by kernel_rfl) (by kernel_rfl) (A := A_laws_toStringS) (I := In_laws_toStringS) hcs ?_
  rintro ⟨a0, u⟩ y hy
  exact h a0 y hy

theorem hcs_laws_toStringS : ∀ x ∈ cs_laws_toStringS, CtrOk Try.prog x := conOf_nil
theorem ok_laws_toStringS : CtrOk Try.prog c_laws_toStringS := mk_laws_toStringS hcs_laws_toStringS fun a0 y hy => by
  obtain ⟨n, hn⟩ := toS_ok (t := .str) (f := fun x => some x) (fun x _ _ => rfl) (by_ := 16) (by omega) (fun n xs i out => L_laws_toStringS_0_3_eq n xs i out) hy
  exact ⟨n, (F_laws_toStringS_eq n a0).trans hn⟩
/-! ## laws.toAtomS (89) -/
noncomputable def c_laws_toAtomS : Ctr := ⟨89, [(.list TyAtom)], [(.list TyAtom)], fun x => toC (.list TyAtom) x.1⟩
def A_laws_toAtomS : List (List Nat × Ann) := [([0, 3], [.keep 0 0, .keep 0 3, .keep 0 4, .rows 0 7 TyAtom])]
def In_laws_toAtomS : List (List Nat × Nat) := []
noncomputable def cs_laws_toAtomS : List Ctr := [c_laws_toAtom]
noncomputable def F_laws_toAtomS (n : Nat) (a0 : (List DAtom)) : Option (List DAtom) := run Try.prog A_laws_toAtomS In_laws_toAtomS (conOf cs_laws_toAtomS) Try.f89 (Try.f89.body.getD .skip) (packT [(.list TyAtom)]) n (argsV [(.list TyAtom)] (a0, ()))
noncomputable abbrev L_laws_toAtomS_0_3 (n : Nat) (x1 : (List DAtom)) (x2 : Int) (x3 : (List DAtom)) : Option (List DAtom) := lam Try.prog A_laws_toAtomS In_laws_toAtomS (conOf cs_laws_toAtomS) Try.f89 (Try.f89.body.getD .skip) (packT [(.list TyAtom)]) n [0, 3] [.d (.list TyAtom) x1, .msl 0 7, .d I64 x2, .d (.list TyAtom) x3]
theorem F_laws_toAtomS_eq (n : Nat) (a0 : (List DAtom)) : F_laws_toAtomS n a0 =
    bif decide ((a0.length : Int) = (a0.length : Int)) && decide ((0 : Int) ≤ (a0.length : Int)) && decide ((a0.length : Int) * 48 ≤ room) && true then
      L_laws_toAtomS_0_3 n a0 0 (List.replicate (Int.toNat (a0.length : Int)) (0, 0, ([] : List Int), ([] : List Int)))
    else none := by kernel_rfl
theorem L_laws_toAtomS_0_3_eq (n : Nat) (x1 : (List DAtom)) (x2 : Int) (x3 : (List DAtom)) : L_laws_toAtomS_0_3 (n + 1) x1 x2 x3 =
    bif decide (x2 < (x1.length : Int)) then
      bif inB x2 x1.length then
        Option.bind (toC TyAtom (rd x1 x2 (Ty.dflt TyAtom))) fun (y1 : DAtom) =>
        bif inB x2 x3.length then
          bif inB x2 x3.length && true && true && true && true then
            L_laws_toAtomS_0_3 n x1 (IntKind.wrap .i64 (x2 + 1)) (x3.set (Int.toNat x2) y1)
          else none
        else none
      else none
    else
      some x3 := by kernel_rfl
theorem mk_laws_toAtomS (hcs : ∀ x ∈ cs_laws_toAtomS, CtrOk Try.prog x) (h : ∀ (a0 : (List DAtom)) y, toC (.list TyAtom) a0 = some y → ∃ n, F_laws_toAtomS n a0 = some y) : CtrOk Try.prog c_laws_toAtomS := by
  refine ctr_of_run (c := c_laws_toAtomS) (by kernel_rfl : Try.prog.funcs[89]? = some Try.f89) (code := Try.f89.body.getD .skip) (by kernel_rfl) (by kernel_rfl) (by kernel_rfl) (A := A_laws_toAtomS) (I := In_laws_toAtomS) hcs ?_
  rintro ⟨a0, u⟩ y hy
  exact h a0 y hy

theorem hcs_laws_toAtomS : ∀ x ∈ cs_laws_toAtomS, CtrOk Try.prog x := (conOf_cons ok_laws_toAtom conOf_nil)
theorem ok_laws_toAtomS : CtrOk Try.prog c_laws_toAtomS := mk_laws_toAtomS hcs_laws_toAtomS fun a0 y hy => by
  obtain ⟨n, hn⟩ := toS_ok (t := TyAtom) (f := toC TyAtom) (fun x h h2 => toC_some h h2) (by_ := 48) (by omega) (fun n xs i out => L_laws_toAtomS_0_3_eq n xs i out) hy
  exact ⟨n, (F_laws_toAtomS_eq n a0).trans hn⟩
/-! ## laws.toValue (82) -/
noncomputable def c_laws_toValue : Ctr := ⟨82, [TyValue], [TyValue], fun x => toC TyValue x.1⟩
def A_laws_toValue : List (List Nat × Ann) := []
def In_laws_toValue : List (List Nat × Nat) := []
noncomputable def cs_laws_toValue : List Ctr := [c_laws_toAtom, c_laws_toAtomS, c_laws_toStringS]
noncomputable def F_laws_toValue (n : Nat) (a0 : DValue) : Option DValue := run Try.prog A_laws_toValue In_laws_toValue (conOf cs_laws_toValue) Try.f82 (Try.f82.body.getD .skip) (packT [TyValue]) n (argsV [TyValue] (a0, ()))
theorem F_laws_toValue_eq (n : Nat) (a0 : DValue) : F_laws_toValue n a0 =
    Option.bind (toC TyAtom a0.2.1) fun (y1 : DAtom) =>
    Option.bind (toC (.list TyAtom) a0.2.2.1) fun (y2 : (List DAtom)) =>
    Option.bind (toC (.list .str) a0.2.2.2) fun (y3 : (List (List Int))) =>
    some (a0.1, y1, y2, y3) := by kernel_rfl
theorem mk_laws_toValue (hcs : ∀ x ∈ cs_laws_toValue, CtrOk Try.prog x) (h : ∀ (a0 : DValue) y, toC TyValue a0 = some y → ∃ n, F_laws_toValue n a0 = some y) : CtrOk Try.prog c_laws_toValue := by
  refine ctr_of_run (c := c_laws_toValue) (by kernel_rfl : Try.prog.funcs[82]? = some Try.f82) (code := Try.f82.body.getD .skip) (by kernel_rfl) (by kernel_rfl) (by kernel_rfl) (A := A_laws_toValue) (I := In_laws_toValue) hcs ?_
  rintro ⟨a0, u⟩ y hy
  exact h a0 y hy

theorem hcs_laws_toValue : ∀ x ∈ cs_laws_toValue, CtrOk Try.prog x := (conOf_cons ok_laws_toAtom (conOf_cons ok_laws_toAtomS (conOf_cons ok_laws_toStringS conOf_nil)))
theorem ok_laws_toValue : CtrOk Try.prog c_laws_toValue := mk_laws_toValue hcs_laws_toValue fun a0 y hy => by
  obtain ⟨hw, hs, rfl⟩ := toC_inv hy
  have hw2 : wfD I64 y.1 ∧ wfD TyAtom y.2.1 ∧ wfD (.list TyAtom) y.2.2.1 ∧ wfD (.list .str) y.2.2.2 := hw
  have hs2 : Ty.size I64 y.1 + (Ty.size TyAtom y.2.1 + (Ty.size (.list TyAtom) y.2.2.1 + (Ty.size (.list .str) y.2.2.2))) ≤ 1073741824 := hs
  refine ⟨0, ?_⟩
  rw [F_laws_toValue_eq]
  try (rw [toC_some hw2.2.1 (by omega)]; simp only [Option.bind_some])
  try (rw [toC_some hw2.2.2.1 (by omega)]; simp only [Option.bind_some])
  try (rw [toC_some hw2.2.2.2 (by omega)]; simp only [Option.bind_some])
  try rfl
/-! ## laws.toValueS (50) -/
noncomputable def c_laws_toValueS : Ctr := ⟨50, [(.list TyValue)], [(.list TyValue)], fun x => toC (.list TyValue) x.1⟩
def A_laws_toValueS : List (List Nat × Ann) := [([0, 3], [.keep 0 0, .keep 0 3, .keep 0 4, .rows 0 7 TyValue])]
def In_laws_toValueS : List (List Nat × Nat) := []
noncomputable def cs_laws_toValueS : List Ctr := [c_laws_toValue]
noncomputable def F_laws_toValueS (n : Nat) (a0 : (List DValue)) : Option (List DValue) := run Try.prog A_laws_toValueS In_laws_toValueS (conOf cs_laws_toValueS) Try.f50 (Try.f50.body.getD .skip) (packT [(.list TyValue)]) n (argsV [(.list TyValue)] (a0, ()))
noncomputable abbrev L_laws_toValueS_0_3 (n : Nat) (x1 : (List DValue)) (x2 : Int) (x3 : (List DValue)) : Option (List DValue) := lam Try.prog A_laws_toValueS In_laws_toValueS (conOf cs_laws_toValueS) Try.f50 (Try.f50.body.getD .skip) (packT [(.list TyValue)]) n [0, 3] [.d (.list TyValue) x1, .msl 0 7, .d I64 x2, .d (.list TyValue) x3]
theorem F_laws_toValueS_eq (n : Nat) (a0 : (List DValue)) : F_laws_toValueS n a0 =
    bif decide ((a0.length : Int) = (a0.length : Int)) && decide ((0 : Int) ≤ (a0.length : Int)) && decide ((a0.length : Int) * 104 ≤ room) && true then
      L_laws_toValueS_0_3 n a0 0 (List.replicate (Int.toNat (a0.length : Int)) (0, (0, 0, ([] : List Int), ([] : List Int)), [], []))
    else none := by kernel_rfl
theorem L_laws_toValueS_0_3_eq (n : Nat) (x1 : (List DValue)) (x2 : Int) (x3 : (List DValue)) : L_laws_toValueS_0_3 (n + 1) x1 x2 x3 =
    bif decide (x2 < (x1.length : Int)) then
      bif inB x2 x1.length then
        Option.bind (toC TyValue (rd x1 x2 (Ty.dflt TyValue))) fun (y1 : DValue) =>
        bif inB x2 x3.length then
          bif inB x2 x3.length && true && true && true && true then
            L_laws_toValueS_0_3 n x1 (IntKind.wrap .i64 (x2 + 1)) (x3.set (Int.toNat x2) y1)
          else none
        else none
      else none
    else
      some x3 := by kernel_rfl
theorem mk_laws_toValueS (hcs : ∀ x ∈ cs_laws_toValueS, CtrOk Try.prog x) (h : ∀ (a0 : (List DValue)) y, toC (.list TyValue) a0 = some y → ∃ n, F_laws_toValueS n a0 = some y) : CtrOk Try.prog c_laws_toValueS := by
  refine ctr_of_run (c := c_laws_toValueS) (by kernel_rfl : Try.prog.funcs[50]? = some Try.f50) (code := Try.f50.body.getD .skip) (by kernel_rfl) (by kernel_rfl) (by kernel_rfl) (A := A_laws_toValueS) (I := In_laws_toValueS) hcs ?_
  rintro ⟨a0, u⟩ y hy
  exact h a0 y hy

theorem hcs_laws_toValueS : ∀ x ∈ cs_laws_toValueS, CtrOk Try.prog x := (conOf_cons ok_laws_toValue conOf_nil)
theorem ok_laws_toValueS : CtrOk Try.prog c_laws_toValueS := mk_laws_toValueS hcs_laws_toValueS fun a0 y hy => by
  obtain ⟨n, hn⟩ := toS_ok (t := TyValue) (f := toC TyValue) (fun x h h2 => toC_some h h2) (by_ := 104) (by omega) (fun n xs i out => L_laws_toValueS_0_3_eq n xs i out) hy
  exact ⟨n, (F_laws_toValueS_eq n a0).trans hn⟩
/-! ## laws.toRequest (13) -/
noncomputable def c_laws_toRequest : Ctr := ⟨13, [TyRequest], [TyRequest], fun x => toC TyRequest x.1⟩
def A_laws_toRequest : List (List Nat × Ann) := []
def In_laws_toRequest : List (List Nat × Nat) := []
noncomputable def cs_laws_toRequest : List Ctr := [c_laws_toAtom, c_laws_toStringS, c_laws_toValueS]
noncomputable def F_laws_toRequest (n : Nat) (a0 : DRequest) : Option DRequest := run Try.prog A_laws_toRequest In_laws_toRequest (conOf cs_laws_toRequest) Try.f13 (Try.f13.body.getD .skip) (packT [TyRequest]) n (argsV [TyRequest] (a0, ()))
theorem F_laws_toRequest_eq (n : Nat) (a0 : DRequest) : F_laws_toRequest n a0 =
    Option.bind (toC TyAtom a0.1) fun (y1 : DAtom) =>
    Option.bind (toC TyAtom a0.2.1) fun (y2 : DAtom) =>
    Option.bind (toC TyAtom a0.2.2.1) fun (y3 : DAtom) =>
    Option.bind (toC (.list .str) a0.2.2.2.1) fun (y4 : (List (List Int))) =>
    Option.bind (toC (.list TyValue) a0.2.2.2.2) fun (y5 : (List DValue)) =>
    some (y1, y2, y3, y4, y5) := by kernel_rfl
theorem mk_laws_toRequest (hcs : ∀ x ∈ cs_laws_toRequest, CtrOk Try.prog x) (h : ∀ (a0 : DRequest) y, toC TyRequest a0 = some y → ∃ n, F_laws_toRequest n a0 = some y) : CtrOk Try.prog c_laws_toRequest := by
  refine ctr_of_run (c := c_laws_toRequest) (by kernel_rfl : Try.prog.funcs[13]? = some Try.f13) (code := Try.f13.body.getD .skip) (by kernel_rfl) (by kernel_rfl) (by kernel_rfl) (A := A_laws_toRequest) (I := In_laws_toRequest) hcs ?_
  rintro ⟨a0, u⟩ y hy
  exact h a0 y hy

theorem hcs_laws_toRequest : ∀ x ∈ cs_laws_toRequest, CtrOk Try.prog x := (conOf_cons ok_laws_toAtom (conOf_cons ok_laws_toStringS (conOf_cons ok_laws_toValueS conOf_nil)))
theorem ok_laws_toRequest : CtrOk Try.prog c_laws_toRequest := mk_laws_toRequest hcs_laws_toRequest fun a0 y hy => by
  obtain ⟨hw, hs, rfl⟩ := toC_inv hy
  have hw2 : wfD TyAtom y.1 ∧ wfD TyAtom y.2.1 ∧ wfD TyAtom y.2.2.1 ∧ wfD (.list .str) y.2.2.2.1 ∧ wfD (.list TyValue) y.2.2.2.2 := hw
  have hs2 : Ty.size TyAtom y.1 + (Ty.size TyAtom y.2.1 + (Ty.size TyAtom y.2.2.1 + (Ty.size (.list .str) y.2.2.2.1 + (Ty.size (.list TyValue) y.2.2.2.2)))) ≤ 1073741824 := hs
  refine ⟨0, ?_⟩
  rw [F_laws_toRequest_eq]
  try (rw [toC_some hw2.1 (by omega)]; simp only [Option.bind_some])
  try (rw [toC_some hw2.2.1 (by omega)]; simp only [Option.bind_some])
  try (rw [toC_some hw2.2.2.1 (by omega)]; simp only [Option.bind_some])
  try (rw [toC_some hw2.2.2.2.1 (by omega)]; simp only [Option.bind_some])
  try (rw [toC_some hw2.2.2.2.2 (by omega)]; simp only [Option.bind_some])
  try rfl
/-! ## laws.eqAtom (53) -/
noncomputable def c_laws_eqAtom : Ctr := ⟨53, [TyAtom, TyAtom], [.bool], fun x => eqC TyAtom x.1 x.2.1⟩
def A_laws_eqAtom : List (List Nat × Ann) := []
def In_laws_eqAtom : List (List Nat × Nat) := []
noncomputable def cs_laws_eqAtom : List Ctr := []
noncomputable def F_laws_eqAtom (n : Nat) (a0 : DAtom) (a1 : DAtom) : Option Bool := run Try.prog A_laws_eqAtom In_laws_eqAtom (conOf cs_laws_eqAtom) Try.f53 (Try.f53.body.getD .skip) (packT [.bool]) n (argsV [TyAtom, TyAtom] (a0, a1, ()))
theorem F_laws_eqAtom_eq (n : Nat) (a0 : DAtom) (a1 : DAtom) : F_laws_eqAtom n a0 a1 =
    bif !decide (a0.1 = a1.1) then
      some false
    else
      bif !decide (a0.2.1 = a1.2.1) then
        some false
      else
        bif !decide (a0.2.2.1 = a1.2.2.1) then
          some false
        else
          bif !decide (a0.2.2.2 = a1.2.2.2) then
            some false
          else
            some true := by kernel_rfl
theorem mk_laws_eqAtom (hcs : ∀ x ∈ cs_laws_eqAtom, CtrOk Try.prog x) (h : ∀ (a0 : DAtom) (a1 : DAtom) y, eqC TyAtom a0 a1 = some y → ∃ n, F_laws_eqAtom n a0 a1 = some y) : CtrOk Try.prog c_laws_eqAtom := by
  refine ctr_of_run (c := c_laws_eqAtom) (by kernel_rfl : Try.prog.funcs[53]? = some Try.f53) (code := Try.f53.body.getD .skip) (by kernel_rfl) (by kernel_rfl) (by kernel_rfl) (A := A_laws_eqAtom) (I := In_laws_eqAtom) hcs ?_
  rintro ⟨a0, a1, u⟩ y hy
  exact h a0 a1 y hy

theorem hcs_laws_eqAtom : ∀ x ∈ cs_laws_eqAtom, CtrOk Try.prog x := conOf_nil
theorem ok_laws_eqAtom : CtrOk Try.prog c_laws_eqAtom := mk_laws_eqAtom hcs_laws_eqAtom fun a0 a1 y hy => by
  obtain ⟨rfl, hw, rfl⟩ := eqC_inv hy
  have hw2 : wfD I64 a0.1 ∧ wfD I64 a0.2.1 ∧ wfD .str a0.2.2.1 ∧ wfD .str a0.2.2.2 := hw
  refine ⟨0, ?_⟩
  rw [F_laws_eqAtom_eq]
  simp []
/-! ## laws.eqStringS (44) -/
noncomputable def c_laws_eqStringS : Ctr := ⟨44, [(.list .str), (.list .str)], [.bool], fun x => eqC (.list .str) x.1 x.2.1⟩
def A_laws_eqStringS : List (List Nat × Ann) := [([0, 4], [.keep 0 0, .keep 0 1, .keep 0 5])]
def In_laws_eqStringS : List (List Nat × Nat) := []
noncomputable def cs_laws_eqStringS : List Ctr := []
noncomputable def F_laws_eqStringS (n : Nat) (a0 : (List (List Int))) (a1 : (List (List Int))) : Option Bool := run Try.prog A_laws_eqStringS In_laws_eqStringS (conOf cs_laws_eqStringS) Try.f44 (Try.f44.body.getD .skip) (packT [.bool]) n (argsV [(.list .str), (.list .str)] (a0, a1, ()))
noncomputable abbrev L_laws_eqStringS_0_4 (n : Nat) (x1 : (List (List Int))) (x2 : (List (List Int))) (x3 : Int) : Option Bool := lam Try.prog A_laws_eqStringS In_laws_eqStringS (conOf cs_laws_eqStringS) Try.f44 (Try.f44.body.getD .skip) (packT [.bool]) n [0, 4] [.d (.list .str) x1, .d (.list .str) x2, .d I64 x3]
theorem F_laws_eqStringS_eq (n : Nat) (a0 : (List (List Int))) (a1 : (List (List Int))) : F_laws_eqStringS n a0 a1 =
    bif !decide ((a0.length : Int) = (a1.length : Int)) then
      some false
    else
      L_laws_eqStringS_0_4 n a0 a1 0 := by kernel_rfl
theorem L_laws_eqStringS_0_4_eq (n : Nat) (x1 : (List (List Int))) (x2 : (List (List Int))) (x3 : Int) : L_laws_eqStringS_0_4 (n + 1) x1 x2 x3 =
    bif decide (x3 < (x1.length : Int)) then
      bif inB x3 x1.length then
        bif inB x3 x2.length then
          bif !decide (rd x1 x3 (Ty.dflt .str) = rd x2 x3 (Ty.dflt .str)) then
            some false
          else
            L_laws_eqStringS_0_4 n x1 x2 (IntKind.wrap .i64 (x3 + 1))
        else none
      else none
    else
      some true := by kernel_rfl
theorem mk_laws_eqStringS (hcs : ∀ x ∈ cs_laws_eqStringS, CtrOk Try.prog x) (h : ∀ (a0 : (List (List Int))) (a1 : (List (List Int))) y, eqC (.list .str) a0 a1 = some y → ∃ n, F_laws_eqStringS n a0 a1 = some y) : CtrOk Try.prog c_laws_eqStringS := by
  refine ctr_of_run (c := c_laws_eqStringS) (by kernel_rfl : Try.prog.funcs[44]? = some Try.f44) (code := Try.f44.body.getD .skip) (by kernel_rfl) (by kernel_rfl) (by kernel_rfl) (A := A_laws_eqStringS) (I := In_laws_eqStringS) hcs ?_
  rintro ⟨a0, a1, u⟩ y hy
  exact h a0 a1 y hy

theorem hcs_laws_eqStringS : ∀ x ∈ cs_laws_eqStringS, CtrOk Try.prog x := conOf_nil
theorem ok_laws_eqStringS : CtrOk Try.prog c_laws_eqStringS := mk_laws_eqStringS hcs_laws_eqStringS fun a0 a1 y hy => by
  obtain ⟨n, hn⟩ := eqS_ok (t := .str) (body := fun x y K => bif !decide (x = y) then some false else K ()) (fun x K h => by simp) (fun n xs ys i => L_laws_eqStringS_0_4_eq n xs ys i) hy
  exact ⟨n, (F_laws_eqStringS_eq n a0 a1).trans hn⟩
/-! ## laws.eqAtomS (96) -/
noncomputable def c_laws_eqAtomS : Ctr := ⟨96, [(.list TyAtom), (.list TyAtom)], [.bool], fun x => eqC (.list TyAtom) x.1 x.2.1⟩
def A_laws_eqAtomS : List (List Nat × Ann) := [([0, 4], [.keep 0 0, .keep 0 1, .keep 0 5])]
def In_laws_eqAtomS : List (List Nat × Nat) := []
noncomputable def cs_laws_eqAtomS : List Ctr := [c_laws_eqAtom]
noncomputable def F_laws_eqAtomS (n : Nat) (a0 : (List DAtom)) (a1 : (List DAtom)) : Option Bool := run Try.prog A_laws_eqAtomS In_laws_eqAtomS (conOf cs_laws_eqAtomS) Try.f96 (Try.f96.body.getD .skip) (packT [.bool]) n (argsV [(.list TyAtom), (.list TyAtom)] (a0, a1, ()))
noncomputable abbrev L_laws_eqAtomS_0_4 (n : Nat) (x1 : (List DAtom)) (x2 : (List DAtom)) (x3 : Int) : Option Bool := lam Try.prog A_laws_eqAtomS In_laws_eqAtomS (conOf cs_laws_eqAtomS) Try.f96 (Try.f96.body.getD .skip) (packT [.bool]) n [0, 4] [.d (.list TyAtom) x1, .d (.list TyAtom) x2, .d I64 x3]
theorem F_laws_eqAtomS_eq (n : Nat) (a0 : (List DAtom)) (a1 : (List DAtom)) : F_laws_eqAtomS n a0 a1 =
    bif !decide ((a0.length : Int) = (a1.length : Int)) then
      some false
    else
      L_laws_eqAtomS_0_4 n a0 a1 0 := by kernel_rfl
theorem L_laws_eqAtomS_0_4_eq (n : Nat) (x1 : (List DAtom)) (x2 : (List DAtom)) (x3 : Int) : L_laws_eqAtomS_0_4 (n + 1) x1 x2 x3 =
    bif decide (x3 < (x1.length : Int)) then
      bif inB x3 x1.length then
        bif inB x3 x2.length then
          Option.bind (eqC TyAtom (rd x1 x3 (Ty.dflt TyAtom)) (rd x2 x3 (Ty.dflt TyAtom))) fun (y1 : Bool) =>
          bif !(y1) then
            some false
          else
            L_laws_eqAtomS_0_4 n x1 x2 (IntKind.wrap .i64 (x3 + 1))
        else none
      else none
    else
      some true := by kernel_rfl
theorem mk_laws_eqAtomS (hcs : ∀ x ∈ cs_laws_eqAtomS, CtrOk Try.prog x) (h : ∀ (a0 : (List DAtom)) (a1 : (List DAtom)) y, eqC (.list TyAtom) a0 a1 = some y → ∃ n, F_laws_eqAtomS n a0 a1 = some y) : CtrOk Try.prog c_laws_eqAtomS := by
  refine ctr_of_run (c := c_laws_eqAtomS) (by kernel_rfl : Try.prog.funcs[96]? = some Try.f96) (code := Try.f96.body.getD .skip) (by kernel_rfl) (by kernel_rfl) (by kernel_rfl) (A := A_laws_eqAtomS) (I := In_laws_eqAtomS) hcs ?_
  rintro ⟨a0, a1, u⟩ y hy
  exact h a0 a1 y hy

theorem hcs_laws_eqAtomS : ∀ x ∈ cs_laws_eqAtomS, CtrOk Try.prog x := (conOf_cons ok_laws_eqAtom conOf_nil)
theorem ok_laws_eqAtomS : CtrOk Try.prog c_laws_eqAtomS := mk_laws_eqAtomS hcs_laws_eqAtomS fun a0 a1 y hy => by
  obtain ⟨n, hn⟩ := eqS_ok (t := TyAtom) (body := fun x y K => Option.bind (eqC TyAtom x y) fun b => bif !b then some false else K ()) (fun x K h => by simp only [eqC_some h, Option.bind_some, Bool.not_true, cond_false]) (fun n xs ys i => L_laws_eqAtomS_0_4_eq n xs ys i) hy
  exact ⟨n, (F_laws_eqAtomS_eq n a0 a1).trans hn⟩
/-! ## laws.eqValue (87) -/
noncomputable def c_laws_eqValue : Ctr := ⟨87, [TyValue, TyValue], [.bool], fun x => eqC TyValue x.1 x.2.1⟩
def A_laws_eqValue : List (List Nat × Ann) := []
def In_laws_eqValue : List (List Nat × Nat) := []
noncomputable def cs_laws_eqValue : List Ctr := [c_laws_eqAtom, c_laws_eqAtomS, c_laws_eqStringS]
noncomputable def F_laws_eqValue (n : Nat) (a0 : DValue) (a1 : DValue) : Option Bool := run Try.prog A_laws_eqValue In_laws_eqValue (conOf cs_laws_eqValue) Try.f87 (Try.f87.body.getD .skip) (packT [.bool]) n (argsV [TyValue, TyValue] (a0, a1, ()))
theorem F_laws_eqValue_eq (n : Nat) (a0 : DValue) (a1 : DValue) : F_laws_eqValue n a0 a1 =
    bif !decide (a0.1 = a1.1) then
      some false
    else
      Option.bind (eqC TyAtom a0.2.1 a1.2.1) fun (y1 : Bool) =>
      bif !(y1) then
        some false
      else
        Option.bind (eqC (.list TyAtom) a0.2.2.1 a1.2.2.1) fun (y2 : Bool) =>
        bif !(y2) then
          some false
        else
          Option.bind (eqC (.list .str) a0.2.2.2 a1.2.2.2) fun (y3 : Bool) =>
          bif !(y3) then
            some false
          else
            some true := by kernel_rfl
theorem mk_laws_eqValue (hcs : ∀ x ∈ cs_laws_eqValue, CtrOk Try.prog x) (h : ∀ (a0 : DValue) (a1 : DValue) y, eqC TyValue a0 a1 = some y → ∃ n, F_laws_eqValue n a0 a1 = some y) : CtrOk Try.prog c_laws_eqValue := by
  refine ctr_of_run (c := c_laws_eqValue) (by kernel_rfl : Try.prog.funcs[87]? = some Try.f87) (code := Try.f87.body.getD .skip) (by kernel_rfl) (by kernel_rfl) (by kernel_rfl) (A := A_laws_eqValue) (I := In_laws_eqValue) hcs ?_
  rintro ⟨a0, a1, u⟩ y hy
  exact h a0 a1 y hy

theorem hcs_laws_eqValue : ∀ x ∈ cs_laws_eqValue, CtrOk Try.prog x := (conOf_cons ok_laws_eqAtom (conOf_cons ok_laws_eqAtomS (conOf_cons ok_laws_eqStringS conOf_nil)))
theorem ok_laws_eqValue : CtrOk Try.prog c_laws_eqValue := mk_laws_eqValue hcs_laws_eqValue fun a0 a1 y hy => by
  obtain ⟨rfl, hw, rfl⟩ := eqC_inv hy
  have hw2 : wfD I64 a0.1 ∧ wfD TyAtom a0.2.1 ∧ wfD (.list TyAtom) a0.2.2.1 ∧ wfD (.list .str) a0.2.2.2 := hw
  refine ⟨0, ?_⟩
  rw [F_laws_eqValue_eq]
  simp [eqC_some hw2.2.1, eqC_some hw2.2.2.1, eqC_some hw2.2.2.2]
/-! ## laws.eqValueS (54) -/
noncomputable def c_laws_eqValueS : Ctr := ⟨54, [(.list TyValue), (.list TyValue)], [.bool], fun x => eqC (.list TyValue) x.1 x.2.1⟩
def A_laws_eqValueS : List (List Nat × Ann) := [([0, 4], [.keep 0 0, .keep 0 1, .keep 0 5])]
def In_laws_eqValueS : List (List Nat × Nat) := []
noncomputable def cs_laws_eqValueS : List Ctr := [c_laws_eqValue]
noncomputable def F_laws_eqValueS (n : Nat) (a0 : (List DValue)) (a1 : (List DValue)) : Option Bool := run Try.prog A_laws_eqValueS In_laws_eqValueS (conOf cs_laws_eqValueS) Try.f54 (Try.f54.body.getD .skip) (packT [.bool]) n (argsV [(.list TyValue), (.list TyValue)] (a0, a1, ()))
noncomputable abbrev L_laws_eqValueS_0_4 (n : Nat) (x1 : (List DValue)) (x2 : (List DValue)) (x3 : Int) : Option Bool := lam Try.prog A_laws_eqValueS In_laws_eqValueS (conOf cs_laws_eqValueS) Try.f54 (Try.f54.body.getD .skip) (packT [.bool]) n [0, 4] [.d (.list TyValue) x1, .d (.list TyValue) x2, .d I64 x3]
theorem F_laws_eqValueS_eq (n : Nat) (a0 : (List DValue)) (a1 : (List DValue)) : F_laws_eqValueS n a0 a1 =
    bif !decide ((a0.length : Int) = (a1.length : Int)) then
      some false
    else
      L_laws_eqValueS_0_4 n a0 a1 0 := by kernel_rfl
theorem L_laws_eqValueS_0_4_eq (n : Nat) (x1 : (List DValue)) (x2 : (List DValue)) (x3 : Int) : L_laws_eqValueS_0_4 (n + 1) x1 x2 x3 =
    bif decide (x3 < (x1.length : Int)) then
      bif inB x3 x1.length then
        bif inB x3 x2.length then
          Option.bind (eqC TyValue (rd x1 x3 (Ty.dflt TyValue)) (rd x2 x3 (Ty.dflt TyValue))) fun (y1 : Bool) =>
          bif !(y1) then
            some false
          else
            L_laws_eqValueS_0_4 n x1 x2 (IntKind.wrap .i64 (x3 + 1))
        else none
      else none
    else
      some true := by kernel_rfl
theorem mk_laws_eqValueS (hcs : ∀ x ∈ cs_laws_eqValueS, CtrOk Try.prog x) (h : ∀ (a0 : (List DValue)) (a1 : (List DValue)) y, eqC (.list TyValue) a0 a1 = some y → ∃ n, F_laws_eqValueS n a0 a1 = some y) : CtrOk Try.prog c_laws_eqValueS := by
  refine ctr_of_run (c := c_laws_eqValueS) (by kernel_rfl : Try.prog.funcs[54]? = some Try.f54) (code := Try.f54.body.getD .skip) (by kernel_rfl) (by kernel_rfl) (by kernel_rfl) (A := A_laws_eqValueS) (I := In_laws_eqValueS) hcs ?_
  rintro ⟨a0, a1, u⟩ y hy
  exact h a0 a1 y hy

theorem hcs_laws_eqValueS : ∀ x ∈ cs_laws_eqValueS, CtrOk Try.prog x := (conOf_cons ok_laws_eqValue conOf_nil)
theorem ok_laws_eqValueS : CtrOk Try.prog c_laws_eqValueS := mk_laws_eqValueS hcs_laws_eqValueS fun a0 a1 y hy => by
  obtain ⟨n, hn⟩ := eqS_ok (t := TyValue) (body := fun x y K => Option.bind (eqC TyValue x y) fun b => bif !b then some false else K ()) (fun x K h => by simp only [eqC_some h, Option.bind_some, Bool.not_true, cond_false]) (fun n xs ys i => L_laws_eqValueS_0_4_eq n xs ys i) hy
  exact ⟨n, (F_laws_eqValueS_eq n a0 a1).trans hn⟩
/-! ## laws.eqRequest (15) -/
noncomputable def c_laws_eqRequest : Ctr := ⟨15, [TyRequest, TyRequest], [.bool], fun x => eqC TyRequest x.1 x.2.1⟩
def A_laws_eqRequest : List (List Nat × Ann) := []
def In_laws_eqRequest : List (List Nat × Nat) := []
noncomputable def cs_laws_eqRequest : List Ctr := [c_laws_eqAtom, c_laws_eqStringS, c_laws_eqValueS]
noncomputable def F_laws_eqRequest (n : Nat) (a0 : DRequest) (a1 : DRequest) : Option Bool := run Try.prog A_laws_eqRequest In_laws_eqRequest (conOf cs_laws_eqRequest) Try.f15 (Try.f15.body.getD .skip) (packT [.bool]) n (argsV [TyRequest, TyRequest] (a0, a1, ()))
theorem F_laws_eqRequest_eq (n : Nat) (a0 : DRequest) (a1 : DRequest) : F_laws_eqRequest n a0 a1 =
    Option.bind (eqC TyAtom a0.1 a1.1) fun (y1 : Bool) =>
    bif !(y1) then
      some false
    else
      Option.bind (eqC TyAtom a0.2.1 a1.2.1) fun (y2 : Bool) =>
      bif !(y2) then
        some false
      else
        Option.bind (eqC TyAtom a0.2.2.1 a1.2.2.1) fun (y3 : Bool) =>
        bif !(y3) then
          some false
        else
          Option.bind (eqC (.list .str) a0.2.2.2.1 a1.2.2.2.1) fun (y4 : Bool) =>
          bif !(y4) then
            some false
          else
            Option.bind (eqC (.list TyValue) a0.2.2.2.2 a1.2.2.2.2) fun (y5 : Bool) =>
            bif !(y5) then
              some false
            else
              some true := by kernel_rfl
theorem mk_laws_eqRequest (hcs : ∀ x ∈ cs_laws_eqRequest, CtrOk Try.prog x) (h : ∀ (a0 : DRequest) (a1 : DRequest) y, eqC TyRequest a0 a1 = some y → ∃ n, F_laws_eqRequest n a0 a1 = some y) : CtrOk Try.prog c_laws_eqRequest := by
  refine ctr_of_run (c := c_laws_eqRequest) (by kernel_rfl : Try.prog.funcs[15]? = some Try.f15) (code := Try.f15.body.getD .skip) (by kernel_rfl) (by kernel_rfl) (by kernel_rfl) (A := A_laws_eqRequest) (I := In_laws_eqRequest) hcs ?_
  rintro ⟨a0, a1, u⟩ y hy
  exact h a0 a1 y hy

theorem hcs_laws_eqRequest : ∀ x ∈ cs_laws_eqRequest, CtrOk Try.prog x := (conOf_cons ok_laws_eqAtom (conOf_cons ok_laws_eqStringS (conOf_cons ok_laws_eqValueS conOf_nil)))
theorem ok_laws_eqRequest : CtrOk Try.prog c_laws_eqRequest := mk_laws_eqRequest hcs_laws_eqRequest fun a0 a1 y hy => by
  obtain ⟨rfl, hw, rfl⟩ := eqC_inv hy
  have hw2 : wfD TyAtom a0.1 ∧ wfD TyAtom a0.2.1 ∧ wfD TyAtom a0.2.2.1 ∧ wfD (.list .str) a0.2.2.2.1 ∧ wfD (.list TyValue) a0.2.2.2.2 := hw
  refine ⟨0, ?_⟩
  rw [F_laws_eqRequest_eq]
  simp [eqC_some hw2.1, eqC_some hw2.2.1, eqC_some hw2.2.2.1, eqC_some hw2.2.2.2.1, eqC_some hw2.2.2.2.2]
/-! ## laws.FnExactGoodRequest (4) -/
noncomputable def P_laws_FnExactGoodRequest (a0 : DRequest) : Option Bool :=
  Option.bind (szC TyRequest a0 1048576) fun (y1 : Int) =>
  bif decide (y1 < 0) then
    some true
  else
    Option.bind (toC TyRequest a0) fun (y2 : DRequest) =>
    Option.bind (P_spec_GoodRequest y2) fun (y3 : Bool) =>
    Option.bind (toC TyRequest a0) fun (y4 : DRequest) =>
    Option.bind (P_impl_GoodRequest y4) fun (y5 : Bool) =>
    bif y5 != y3 then
      some false
    else
      Option.bind (toC TyRequest a0) fun (y6 : DRequest) =>
      Option.bind (eqC TyRequest y4 y6) fun (y7 : Bool) =>
      bif !(y7) then
        some false
      else
        some true
def A_laws_FnExactGoodRequest : List (List Nat × Ann) := []
def In_laws_FnExactGoodRequest : List (List Nat × Nat) := []
noncomputable def cs_laws_FnExactGoodRequest : List Ctr := [c_laws_szRequest, c_laws_toRequest, c_spec_GoodRequest, c_impl_GoodRequest, c_laws_eqRequest]
noncomputable def F_laws_FnExactGoodRequest (n : Nat) (a0 : DRequest) : Option Bool := run Try.prog A_laws_FnExactGoodRequest In_laws_FnExactGoodRequest (conOf cs_laws_FnExactGoodRequest) Try.f4 (Try.f4.body.getD .skip) (packT [.bool]) n (argsV [TyRequest] (a0, ()))
theorem F_laws_FnExactGoodRequest_eq (n : Nat) (a0 : DRequest) : F_laws_FnExactGoodRequest n a0 =
    Option.bind (szC TyRequest a0 1048576) fun (y1 : Int) =>
    bif decide (y1 < 0) then
      some true
    else
      Option.bind (toC TyRequest a0) fun (y2 : DRequest) =>
      Option.bind (P_spec_GoodRequest y2) fun (y3 : Bool) =>
      Option.bind (toC TyRequest a0) fun (y4 : DRequest) =>
      Option.bind (P_impl_GoodRequest y4) fun (y5 : Bool) =>
      bif y5 != y3 then
        some false
      else
        Option.bind (toC TyRequest a0) fun (y6 : DRequest) =>
        Option.bind (eqC TyRequest y4 y6) fun (y7 : Bool) =>
        bif !(y7) then
          some false
        else
          some true := by kernel_rfl
theorem S_laws_FnExactGoodRequest (a0 : DRequest) {r : Bool} (h : P_laws_FnExactGoodRequest a0 = some r) : Ev (fun n => F_laws_FnExactGoodRequest n a0) r := by
  rw [P_laws_FnExactGoodRequest] at h
  refine Ev.of_eq ?_ (fun n => F_laws_FnExactGoodRequest_eq n a0)
  exact (Ev.ofBind h fun y1 h => (Ev.ofBif h (fun h => (Ev.ofSome h)) (fun h => (Ev.ofBind h fun y2 h => (Ev.ofBind h fun y3 h => (Ev.ofBind h fun y4 h => (Ev.ofBind h fun y5 h => (Ev.ofBif h (fun h => (Ev.ofSome h)) (fun h => (Ev.ofBind h fun y6 h => (Ev.ofBind h fun y7 h => (Ev.ofBif h (fun h => (Ev.ofSome h)) (fun h => (Ev.ofSome h))))))))))))))

/-! ## spec.GoodThings (17) -/
noncomputable def P_spec_GoodThings_0_9 (K0 : Option Bool) (x8 : DThing) : List DAtom → Nat → Option Bool
  | [], k =>
      K0
  | e :: rest, k =>
      Option.bind (P_spec_l11Ref (e)) fun (y4 : Bool) =>
      bif !(y4) then
        some false
      else
        bif decide ((0 : Int) < (k : Int)) then
          bif inB (IntKind.wrap .i64 ((k : Int) - 1)) x8.2.1.length then
            Option.bind (P_spec_l1Cmp (rd x8.2.1 (IntKind.wrap .i64 ((k : Int) - 1)) (Ty.dflt TyAtom)) (e)) fun (y5 : Int) =>
            bif decide ((0 : Int) ≤ y5) then
              some false
            else
              P_spec_GoodThings_0_9 K0 x8 rest (k + 1)
          else none
        else
          P_spec_GoodThings_0_9 K0 x8 rest (k + 1)
noncomputable def P_spec_GoodThings_0_4 (x1 : (List DThing)) : List DThing → Nat → Option Bool
  | [], k =>
      some true
  | e :: rest, k =>
      Option.bind (P_spec_l11Ref ((e).1)) fun (y1 : Bool) =>
      bif !(y1) then
        some false
      else
        bif decide ((0 : Int) < (k : Int)) then
          bif inB (IntKind.wrap .i64 ((k : Int) - 1)) x1.length then
            Option.bind (P_spec_l1Cmp ((rd x1 (IntKind.wrap .i64 ((k : Int) - 1)) (Ty.dflt TyThing)).1) ((e).1)) fun (y2 : Int) =>
            bif decide ((0 : Int) ≤ y2) then
              some false
            else
              bif decide ((50 : Int) < ((((e).2).1).length : Int)) then
                some false
              else
                Option.bind (P_spec_l11Fields ((((e).2).2).1) ((((e).2).2).2)) fun (y3 : Bool) =>
                bif !(y3) then
                  some false
                else
                  lenOk (((e).2).1) (P_spec_GoodThings_0_9 (P_spec_GoodThings_0_4 x1 rest (k + 1)) (((e).1), ((e).2)) (((e).2).1) 0)
          else none
        else
          bif decide ((50 : Int) < ((((e).2).1).length : Int)) then
            some false
          else
            Option.bind (P_spec_l11Fields ((((e).2).2).1) ((((e).2).2).2)) fun (y6 : Bool) =>
            bif !(y6) then
              some false
            else
              lenOk (((e).2).1) (P_spec_GoodThings_0_9 (P_spec_GoodThings_0_4 x1 rest (k + 1)) (((e).1), ((e).2)) (((e).2).1) 0)
noncomputable def P_spec_GoodThings (a0 : (List DThing)) : Option Bool :=
  bif decide ((100 : Int) < (a0.length : Int)) then
    some false
  else
    lenOk a0 (P_spec_GoodThings_0_4 a0 a0 0)
noncomputable def c_spec_GoodThings : Ctr := ⟨17, [(.list TyThing)], [.bool], fun x => P_spec_GoodThings x.1⟩
def A_spec_GoodThings : List (List Nat × Ann) := [([0, 4], [.keep 0 0, .keep 0 10, .keep 0 11, .keep 0 12]), ([0, 9], [.keep 0 0, .keep 0 4, .keep 0 10, .keep 0 11, .keep 0 12, .keep 0 52, .keep 0 53, .keep 0 54, .box 0 4 7])]
def In_spec_GoodThings : List (List Nat × Nat) := []
noncomputable def cs_spec_GoodThings : List Ctr := [c_spec_l11Ref, c_spec_l1Cmp, c_spec_l11Fields]
noncomputable def F_spec_GoodThings (n : Nat) (a0 : (List DThing)) : Option Bool := run Try.prog A_spec_GoodThings In_spec_GoodThings (conOf cs_spec_GoodThings) Try.f17 (Try.f17.body.getD .skip) (packT [.bool]) n (argsV [(.list TyThing)] (a0, ()))
noncomputable abbrev L_spec_GoodThings_0_4 (n : Nat) (x1 : (List DThing)) (x2 : (List DThing)) (x3 : Int) (x4 : Int) : Option Bool := lam Try.prog A_spec_GoodThings In_spec_GoodThings (conOf cs_spec_GoodThings) Try.f17 (Try.f17.body.getD .skip) (packT [.bool]) n [0, 4] [.d (.list TyThing) x1, .d (.list TyThing) x2, .d I64 x3, .d I64 x4]
noncomputable abbrev L_spec_GoodThings_0_9 (n : Nat) (x1 : (List DThing)) (x2 : (List DThing)) (x3 : Int) (x4 : Int) (x5 : (List DAtom)) (x6 : Int) (x7 : Int) (x8 : DThing) : Option Bool := lam Try.prog A_spec_GoodThings In_spec_GoodThings (conOf cs_spec_GoodThings) Try.f17 (Try.f17.body.getD .skip) (packT [.bool]) n [0, 9] [.d (.list TyThing) x1, .ptr 0 4 0, .d (.list TyThing) x2, .d I64 x3, .d I64 x4, .d (.list TyAtom) x5, .d I64 x6, .d I64 x7, .agg (explode TyThing x8)]
theorem F_spec_GoodThings_eq (n : Nat) (a0 : (List DThing)) : F_spec_GoodThings n a0 =
    bif decide ((100 : Int) < (a0.length : Int)) then
      some false
    else
      L_spec_GoodThings_0_4 n a0 a0 (a0.length : Int) 0 := by kernel_rfl
theorem L_spec_GoodThings_0_4_eq (n : Nat) (x1 : (List DThing)) (x2 : (List DThing)) (x3 : Int) (x4 : Int) : L_spec_GoodThings_0_4 (n + 1) x1 x2 x3 x4 =
    bif decide (x4 < x3) then
      bif inB x4 x2.length then
        Option.bind (P_spec_l11Ref ((rd x2 x4 (Ty.dflt TyThing)).1)) fun (y1 : Bool) =>
        bif !(y1) then
          some false
        else
          bif decide ((0 : Int) < x4) then
            bif inB (IntKind.wrap .i64 (x4 - 1)) x1.length then
              Option.bind (P_spec_l1Cmp ((rd x1 (IntKind.wrap .i64 (x4 - 1)) (Ty.dflt TyThing)).1) ((rd x2 x4 (Ty.dflt TyThing)).1)) fun (y2 : Int) =>
              bif decide ((0 : Int) ≤ y2) then
                some false
              else
                bif decide ((50 : Int) < ((((rd x2 x4 (Ty.dflt TyThing)).2).1).length : Int)) then
                  some false
                else
                  Option.bind (P_spec_l11Fields ((((rd x2 x4 (Ty.dflt TyThing)).2).2).1) ((((rd x2 x4 (Ty.dflt TyThing)).2).2).2)) fun (y3 : Bool) =>
                  bif !(y3) then
                    some false
                  else
                    L_spec_GoodThings_0_9 n x1 x2 x3 x4 (((rd x2 x4 (Ty.dflt TyThing)).2).1) ((((rd x2 x4 (Ty.dflt TyThing)).2).1).length : Int) 0 (((rd x2 x4 (Ty.dflt TyThing)).1), ((rd x2 x4 (Ty.dflt TyThing)).2))
            else none
          else
            bif decide ((50 : Int) < ((((rd x2 x4 (Ty.dflt TyThing)).2).1).length : Int)) then
              some false
            else
              Option.bind (P_spec_l11Fields ((((rd x2 x4 (Ty.dflt TyThing)).2).2).1) ((((rd x2 x4 (Ty.dflt TyThing)).2).2).2)) fun (y6 : Bool) =>
              bif !(y6) then
                some false
              else
                L_spec_GoodThings_0_9 n x1 x2 x3 x4 (((rd x2 x4 (Ty.dflt TyThing)).2).1) ((((rd x2 x4 (Ty.dflt TyThing)).2).1).length : Int) 0 (((rd x2 x4 (Ty.dflt TyThing)).1), ((rd x2 x4 (Ty.dflt TyThing)).2))
      else none
    else
      some true := by kernel_rfl
theorem L_spec_GoodThings_0_9_eq (n : Nat) (x1 : (List DThing)) (x2 : (List DThing)) (x3 : Int) (x4 : Int) (x5 : (List DAtom)) (x6 : Int) (x7 : Int) (x8 : DThing) : L_spec_GoodThings_0_9 (n + 1) x1 x2 x3 x4 x5 x6 x7 x8 =
    bif decide (x7 < x6) then
      bif inB x7 x5.length then
        Option.bind (P_spec_l11Ref (rd x5 x7 (Ty.dflt TyAtom))) fun (y4 : Bool) =>
        bif !(y4) then
          some false
        else
          bif decide ((0 : Int) < x7) then
            bif inB (IntKind.wrap .i64 (x7 - 1)) x8.2.1.length then
              Option.bind (P_spec_l1Cmp (rd x8.2.1 (IntKind.wrap .i64 (x7 - 1)) (Ty.dflt TyAtom)) (rd x5 x7 (Ty.dflt TyAtom))) fun (y5 : Int) =>
              bif decide ((0 : Int) ≤ y5) then
                some false
              else
                L_spec_GoodThings_0_9 n x1 x2 x3 x4 x5 x6 (IntKind.wrap .i64 (x7 + 1)) x8
            else none
          else
            L_spec_GoodThings_0_9 n x1 x2 x3 x4 x5 x6 (IntKind.wrap .i64 (x7 + 1)) x8
      else none
    else
      L_spec_GoodThings_0_4 n x1 x2 x3 (IntKind.wrap .i64 (x4 + 1)) := by kernel_rfl
theorem S_spec_GoodThings_0_9 {K0 : Option Bool} {x1 : (List DThing)} {x3 : Int} {x4 : Int} {x5 : (List DAtom)} {x8 : DThing} (hl : x5.length ≤ maxLen) (hK0 : ∀  (r : Bool), K0 = some r → Ev (fun n => L_spec_GoodThings_0_4 n x1 x1 x3 (IntKind.wrap .i64 (x4 + 1))) r) : ∀ (rest : List DAtom) (k : Nat) (r : Bool), rest = x5.drop k → P_spec_GoodThings_0_9 K0 x8 rest k = some r → Ev (fun n => L_spec_GoodThings_0_9 n x1 x1 x3 x4 x5 (x5.length : Int) (k : Int) x8) r := by
  intro rest
  induction rest with
  | nil =>
    intro k r hr h
    have hk := drop_nil hr
    rw [P_spec_GoodThings_0_9] at h
    refine Ev.step ?_ (fun n => L_spec_GoodThings_0_9_eq n x1 x1 x3 x4 x5 (x5.length : Int) (k : Int) x8)
    rw [show decide ((k : Int) < (x5.length : Int)) = false from decide_eq_false (by omega)]
    exact Ev.neg rfl (hK0  _ h)
  | cons e rest ih =>
    intro k r hr h
    obtain ⟨hk, hx, hr2⟩ := drop_cons (d := (Ty.dflt TyAtom)) hr
    have hw := wrap_succ hl hk
    have ih2 : ∀ (r : Bool), P_spec_GoodThings_0_9 K0 x8 rest (k + 1) = some r → Ev (fun n => L_spec_GoodThings_0_9 n x1 x1 x3 x4 x5 (x5.length : Int) (IntKind.wrap .i64 ((k : Int) + 1)) x8) r := by
      intro r h; rw [hw]; exact ih (k + 1) r hr2 h
    rw [P_spec_GoodThings_0_9] at h
    refine Ev.step ?_ (fun n => L_spec_GoodThings_0_9_eq n x1 x1 x3 x4 x5 (x5.length : Int) (k : Int) x8)
    rw [show decide ((k : Int) < (x5.length : Int)) = true from decide_eq_true (by omega), inB_nat2 hk, hx]
    exact Ev.pos rfl (Ev.pos rfl (Ev.ofBind h fun y4 h => (Ev.ofBif h (fun h => (Ev.ofSome h)) (fun h => (Ev.ofBif h (fun h => (Ev.ofBif h (fun h => (Ev.ofBind h fun y5 h => (Ev.ofBif h (fun h => (Ev.ofSome h)) (fun h => (ih2  _ h))))) (fun h => (Ev.ofNone h)))) (fun h => (ih2  _ h)))))))
theorem S_spec_GoodThings_0_4 {x1 : (List DThing)} (hl : x1.length ≤ maxLen) : ∀ (rest : List DThing) (k : Nat) (r : Bool), rest = x1.drop k → P_spec_GoodThings_0_4 x1 rest k = some r → Ev (fun n => L_spec_GoodThings_0_4 n x1 x1 (x1.length : Int) (k : Int)) r := by
  intro rest
  induction rest with
  | nil =>
    intro k r hr h
    have hk := drop_nil hr
    rw [P_spec_GoodThings_0_4] at h
    refine Ev.step ?_ (fun n => L_spec_GoodThings_0_4_eq n x1 x1 (x1.length : Int) (k : Int))
    rw [show decide ((k : Int) < (x1.length : Int)) = false from decide_eq_false (by omega)]
    exact Ev.neg rfl (Ev.ofSome h)
  | cons e rest ih =>
    intro k r hr h
    obtain ⟨hk, hx, hr2⟩ := drop_cons (d := (Ty.dflt TyThing)) hr
    have hw := wrap_succ hl hk
    have ih2 : ∀ (r : Bool), P_spec_GoodThings_0_4 x1 rest (k + 1) = some r → Ev (fun n => L_spec_GoodThings_0_4 n x1 x1 (x1.length : Int) (IntKind.wrap .i64 ((k : Int) + 1))) r := by
      intro r h; rw [hw]; exact ih (k + 1) r hr2 h
    rw [P_spec_GoodThings_0_4] at h
    refine Ev.step ?_ (fun n => L_spec_GoodThings_0_4_eq n x1 x1 (x1.length : Int) (k : Int))
    rw [show decide ((k : Int) < (x1.length : Int)) = true from decide_eq_true (by omega), inB_nat2 hk, hx]
    exact Ev.pos rfl (Ev.pos rfl (Ev.ofBind h fun y1 h => (Ev.ofBif h (fun h => (Ev.ofSome h)) (fun h => (Ev.ofBif h (fun h => (Ev.ofBif h (fun h => (Ev.ofBind h fun y2 h => (Ev.ofBif h (fun h => (Ev.ofSome h)) (fun h => (Ev.ofBif h (fun h => (Ev.ofSome h)) (fun h => (Ev.ofBind h fun y3 h => (Ev.ofBif h (fun h => (Ev.ofSome h)) (fun h => (Ev.ofLen h fun hl h => S_spec_GoodThings_0_9 hl ih2 _ (0 : Nat) _ rfl h)))))))))) (fun h => (Ev.ofNone h)))) (fun h => (Ev.ofBif h (fun h => (Ev.ofSome h)) (fun h => (Ev.ofBind h fun y6 h => (Ev.ofBif h (fun h => (Ev.ofSome h)) (fun h => (Ev.ofLen h fun hl h => S_spec_GoodThings_0_9 hl ih2 _ (0 : Nat) _ rfl h))))))))))))
theorem S_spec_GoodThings (a0 : (List DThing)) {r : Bool} (h : P_spec_GoodThings a0 = some r) : Ev (fun n => F_spec_GoodThings n a0) r := by
  rw [P_spec_GoodThings] at h
  refine Ev.of_eq ?_ (fun n => F_spec_GoodThings_eq n a0)
  exact (Ev.ofBif h (fun h => (Ev.ofSome h)) (fun h => (Ev.ofLen h fun hl h => S_spec_GoodThings_0_4 hl _ (0 : Nat) _ rfl h)))
theorem hcs_spec_GoodThings : ∀ x ∈ cs_spec_GoodThings, CtrOk Try.prog x := (conOf_cons ok_spec_l11Ref (conOf_cons ok_spec_l1Cmp (conOf_cons ok_spec_l11Fields conOf_nil)))
theorem ok_spec_GoodThings : CtrOk Try.prog c_spec_GoodThings := by
  refine ctr_of_run (c := c_spec_GoodThings) (by kernel_rfl : Try.prog.funcs[17]? = some Try.f17) (code := Try.f17.body.getD .skip) (by kernel_rfl) (by kernel_rfl) (by kernel_rfl) (A := A_spec_GoodThings) (I := In_spec_GoodThings) hcs_spec_GoodThings ?_
  rintro ⟨a0, u⟩ y hy
  exact (S_spec_GoodThings a0 hy).get

/-! ## impl.ygoodRefs (59) -/
noncomputable def P_impl_ygoodRefs_0_2_1002_1010 : List DAtom → Nat → Option Bool
  | [], k =>
      some true
  | e :: rest, k =>
      bif !decide ((e).1 = 4) then
        some (!decide ((0 : Int) ≤ (k : Int)))
      else
        P_impl_ygoodRefs_0_2_1002_1010 rest (k + 1)
noncomputable def P_impl_ygoodRefs (a0 : (List DAtom)) (a1 : Int) : Option Bool :=
  bif decide ((a0.length : Int) ≤ a1) then
    Option.bind (P_impl_yrisingAtoms a0) fun (y1 : Bool) =>
    bif y1 then
      lenOk a0 (P_impl_ygoodRefs_0_2_1002_1010 a0 0)
    else
      some false
  else
    some false
noncomputable def c_impl_ygoodRefs : Ctr := ⟨59, [(.list TyAtom), I64], [.bool], fun x => P_impl_ygoodRefs x.1 x.2.1⟩
def A_impl_ygoodRefs : List (List Nat × Ann) := [([0, 2, 1002, 1010], [.keep 0 13, .keep 2 0, .keep 2 1, .keep 2 7, .keep 2 8])]
def In_impl_ygoodRefs : List (List Nat × Nat) := [([1010], 94), ([1002, 1010], 107), ([4005, 1002, 1010], 95)]
noncomputable def cs_impl_ygoodRefs : List Ctr := [c_impl_yrisingAtoms]
noncomputable def F_impl_ygoodRefs (n : Nat) (a0 : (List DAtom)) (a1 : Int) : Option Bool := run Try.prog A_impl_ygoodRefs In_impl_ygoodRefs (conOf cs_impl_ygoodRefs) Try.f59 (Try.f59.body.getD .skip) (packT [.bool]) n (argsV [(.list TyAtom), I64] (a0, a1, ()))
noncomputable abbrev L_impl_ygoodRefs_0_2_1002_1010 (n : Nat) (x1 : Bool) (x2 : (List DAtom)) (x3 : Int) (x4 : Int) : Option Bool := lam Try.prog A_impl_ygoodRefs In_impl_ygoodRefs (conOf cs_impl_ygoodRefs) Try.f59 (Try.f59.body.getD .skip) (packT [.bool]) n [0, 2, 1002, 1010] [.d .bool x1, .d (.list TyAtom) x2, .fn 95 [], .d I64 x3, .d I64 x4]
theorem F_impl_ygoodRefs_eq (n : Nat) (a0 : (List DAtom)) (a1 : Int) : F_impl_ygoodRefs n a0 a1 =
    bif decide ((a0.length : Int) ≤ a1) then
      Option.bind (P_impl_yrisingAtoms a0) fun (y1 : Bool) =>
      bif y1 then
        L_impl_ygoodRefs_0_2_1002_1010 n true a0 (a0.length : Int) 0
      else
        some false
    else
      some false := by kernel_rfl
theorem L_impl_ygoodRefs_0_2_1002_1010_eq (n : Nat) (x1 : Bool) (x2 : (List DAtom)) (x3 : Int) (x4 : Int) : L_impl_ygoodRefs_0_2_1002_1010 (n + 1) x1 x2 x3 x4 =
    bif decide (x4 < x3) then
      bif inB x4 x2.length then
        bif !decide ((rd x2 x4 (Ty.dflt TyAtom)).1 = 4) then
          bif x1 then
            some (!decide ((0 : Int) ≤ x4))
          else
            some false
        else
          L_impl_ygoodRefs_0_2_1002_1010 n x1 x2 x3 (IntKind.wrap .i64 (x4 + 1))
      else none
    else
      bif x1 then
        some true
      else
        some false := by kernel_rfl
theorem S_impl_ygoodRefs_0_2_1002_1010 {x2 : (List DAtom)} (hl : x2.length ≤ maxLen) : ∀ (rest : List DAtom) (k : Nat) (r : Bool), rest = x2.drop k → P_impl_ygoodRefs_0_2_1002_1010 rest k = some r → Ev (fun n => L_impl_ygoodRefs_0_2_1002_1010 n true x2 (x2.length : Int) (k : Int)) r := by
  intro rest
  induction rest with
  | nil =>
    intro k r hr h
    have hk := drop_nil hr
    rw [P_impl_ygoodRefs_0_2_1002_1010] at h
    refine Ev.step ?_ (fun n => L_impl_ygoodRefs_0_2_1002_1010_eq n true x2 (x2.length : Int) (k : Int))
    rw [show decide ((k : Int) < (x2.length : Int)) = false from decide_eq_false (by omega)]
    exact Ev.neg rfl (Ev.pos rfl (Ev.ofSome h))
  | cons e rest ih =>
    intro k r hr h
    obtain ⟨hk, hx, hr2⟩ := drop_cons (d := (Ty.dflt TyAtom)) hr
    have hw := wrap_succ hl hk
    have ih2 : ∀ (r : Bool), P_impl_ygoodRefs_0_2_1002_1010 rest (k + 1) = some r → Ev (fun n => L_impl_ygoodRefs_0_2_1002_1010 n true x2 (x2.length : Int) (IntKind.wrap .i64 ((k : Int) + 1))) r := by
      intro r h; rw [hw]; exact ih (k + 1) r hr2 h
    rw [P_impl_ygoodRefs_0_2_1002_1010] at h
    refine Ev.step ?_ (fun n => L_impl_ygoodRefs_0_2_1002_1010_eq n true x2 (x2.length : Int) (k : Int))
    rw [show decide ((k : Int) < (x2.length : Int)) = true from decide_eq_true (by omega), inB_nat2 hk, hx]
    exact Ev.pos rfl (Ev.pos rfl (Ev.ofBif h (fun h => (Ev.pos rfl (Ev.ofSome h))) (fun h => (ih2  _ h))))
theorem S_impl_ygoodRefs (a0 : (List DAtom)) (a1 : Int) {r : Bool} (h : P_impl_ygoodRefs a0 a1 = some r) : Ev (fun n => F_impl_ygoodRefs n a0 a1) r := by
  rw [P_impl_ygoodRefs] at h
  refine Ev.of_eq ?_ (fun n => F_impl_ygoodRefs_eq n a0 a1)
  exact (Ev.ofBif h (fun h => (Ev.ofBind h fun y1 h => (Ev.ofBif h (fun h => (Ev.ofLen h fun hl h => S_impl_ygoodRefs_0_2_1002_1010 hl _ (0 : Nat) _ rfl h)) (fun h => (Ev.ofSome h))))) (fun h => (Ev.ofSome h)))
theorem hcs_impl_ygoodRefs : ∀ x ∈ cs_impl_ygoodRefs, CtrOk Try.prog x := (conOf_cons ok_impl_yrisingAtoms conOf_nil)
theorem ok_impl_ygoodRefs : CtrOk Try.prog c_impl_ygoodRefs := by
  refine ctr_of_run (c := c_impl_ygoodRefs) (by kernel_rfl : Try.prog.funcs[59]? = some Try.f59) (code := Try.f59.body.getD .skip) (by kernel_rfl) (by kernel_rfl) (by kernel_rfl) (A := A_impl_ygoodRefs) (I := In_impl_ygoodRefs) hcs_impl_ygoodRefs ?_
  rintro ⟨a0, a1, u⟩ y hy
  exact (S_impl_ygoodRefs a0 a1 hy).get

/-! ## impl.GoodThings (19) -/
noncomputable def P_impl_GoodThings_0_4 (x1 : (List DThing)) : List DThing → Nat → Option Bool
  | [], k =>
      some true
  | e :: rest, k =>
      Option.bind (P_impl_ygoodRef ((e).1)) fun (y1 : Bool) =>
      bif !(y1) then
        some false
      else
        bif decide ((0 : Int) < (k : Int)) then
          bif inB (IntKind.wrap .i64 ((k : Int) - 1)) x1.length then
            Option.bind (P_impl_ycmpAtom ((rd x1 (IntKind.wrap .i64 ((k : Int) - 1)) (Ty.dflt TyThing)).1) ((e).1)) fun (y2 : Int) =>
            bif decide ((0 : Int) ≤ y2) then
              some false
            else
              Option.bind (P_impl_ygoodRefs (((e).2).1) 50) fun (y3 : Bool) =>
              bif !(y3) then
                some false
              else
                Option.bind (P_impl_ygoodFields ((((e).2).2).1) ((((e).2).2).2)) fun (y4 : Bool) =>
                bif !(y4) then
                  some false
                else
                  P_impl_GoodThings_0_4 x1 rest (k + 1)
          else none
        else
          Option.bind (P_impl_ygoodRefs (((e).2).1) 50) fun (y5 : Bool) =>
          bif !(y5) then
            some false
          else
            Option.bind (P_impl_ygoodFields ((((e).2).2).1) ((((e).2).2).2)) fun (y6 : Bool) =>
            bif !(y6) then
              some false
            else
              P_impl_GoodThings_0_4 x1 rest (k + 1)
noncomputable def P_impl_GoodThings (a0 : (List DThing)) : Option Bool :=
  bif decide ((100 : Int) < (a0.length : Int)) then
    some false
  else
    lenOk a0 (P_impl_GoodThings_0_4 a0 a0 0)
noncomputable def c_impl_GoodThings : Ctr := ⟨19, [(.list TyThing)], [.bool], fun x => P_impl_GoodThings x.1⟩
def A_impl_GoodThings : List (List Nat × Ann) := [([0, 4], [.keep 0 0, .keep 0 8, .keep 0 9, .keep 0 10])]
def In_impl_GoodThings : List (List Nat × Nat) := []
noncomputable def cs_impl_GoodThings : List Ctr := [c_impl_ygoodRef, c_impl_ycmpAtom, c_impl_ygoodRefs, c_impl_ygoodFields]
noncomputable def F_impl_GoodThings (n : Nat) (a0 : (List DThing)) : Option Bool := run Try.prog A_impl_GoodThings In_impl_GoodThings (conOf cs_impl_GoodThings) Try.f19 (Try.f19.body.getD .skip) (packT [.bool]) n (argsV [(.list TyThing)] (a0, ()))
noncomputable abbrev L_impl_GoodThings_0_4 (n : Nat) (x1 : (List DThing)) (x2 : (List DThing)) (x3 : Int) (x4 : Int) : Option Bool := lam Try.prog A_impl_GoodThings In_impl_GoodThings (conOf cs_impl_GoodThings) Try.f19 (Try.f19.body.getD .skip) (packT [.bool]) n [0, 4] [.d (.list TyThing) x1, .d (.list TyThing) x2, .d I64 x3, .d I64 x4]
theorem F_impl_GoodThings_eq (n : Nat) (a0 : (List DThing)) : F_impl_GoodThings n a0 =
    bif decide ((100 : Int) < (a0.length : Int)) then
      some false
    else
      L_impl_GoodThings_0_4 n a0 a0 (a0.length : Int) 0 := by kernel_rfl
theorem L_impl_GoodThings_0_4_eq (n : Nat) (x1 : (List DThing)) (x2 : (List DThing)) (x3 : Int) (x4 : Int) : L_impl_GoodThings_0_4 (n + 1) x1 x2 x3 x4 =
    bif decide (x4 < x3) then
      bif inB x4 x2.length then
        Option.bind (P_impl_ygoodRef ((rd x2 x4 (Ty.dflt TyThing)).1)) fun (y1 : Bool) =>
        bif !(y1) then
          some false
        else
          bif decide ((0 : Int) < x4) then
            bif inB (IntKind.wrap .i64 (x4 - 1)) x1.length then
              Option.bind (P_impl_ycmpAtom ((rd x1 (IntKind.wrap .i64 (x4 - 1)) (Ty.dflt TyThing)).1) ((rd x2 x4 (Ty.dflt TyThing)).1)) fun (y2 : Int) =>
              bif decide ((0 : Int) ≤ y2) then
                some false
              else
                Option.bind (P_impl_ygoodRefs (((rd x2 x4 (Ty.dflt TyThing)).2).1) 50) fun (y3 : Bool) =>
                bif !(y3) then
                  some false
                else
                  Option.bind (P_impl_ygoodFields ((((rd x2 x4 (Ty.dflt TyThing)).2).2).1) ((((rd x2 x4 (Ty.dflt TyThing)).2).2).2)) fun (y4 : Bool) =>
                  bif !(y4) then
                    some false
                  else
                    L_impl_GoodThings_0_4 n x1 x2 x3 (IntKind.wrap .i64 (x4 + 1))
            else none
          else
            Option.bind (P_impl_ygoodRefs (((rd x2 x4 (Ty.dflt TyThing)).2).1) 50) fun (y5 : Bool) =>
            bif !(y5) then
              some false
            else
              Option.bind (P_impl_ygoodFields ((((rd x2 x4 (Ty.dflt TyThing)).2).2).1) ((((rd x2 x4 (Ty.dflt TyThing)).2).2).2)) fun (y6 : Bool) =>
              bif !(y6) then
                some false
              else
                L_impl_GoodThings_0_4 n x1 x2 x3 (IntKind.wrap .i64 (x4 + 1))
      else none
    else
      some true := by kernel_rfl
theorem S_impl_GoodThings_0_4 {x1 : (List DThing)} (hl : x1.length ≤ maxLen) : ∀ (rest : List DThing) (k : Nat) (r : Bool), rest = x1.drop k → P_impl_GoodThings_0_4 x1 rest k = some r → Ev (fun n => L_impl_GoodThings_0_4 n x1 x1 (x1.length : Int) (k : Int)) r := by
  intro rest
  induction rest with
  | nil =>
    intro k r hr h
    have hk := drop_nil hr
    rw [P_impl_GoodThings_0_4] at h
    refine Ev.step ?_ (fun n => L_impl_GoodThings_0_4_eq n x1 x1 (x1.length : Int) (k : Int))
    rw [show decide ((k : Int) < (x1.length : Int)) = false from decide_eq_false (by omega)]
    exact Ev.neg rfl (Ev.ofSome h)
  | cons e rest ih =>
    intro k r hr h
    obtain ⟨hk, hx, hr2⟩ := drop_cons (d := (Ty.dflt TyThing)) hr
    have hw := wrap_succ hl hk
    have ih2 : ∀ (r : Bool), P_impl_GoodThings_0_4 x1 rest (k + 1) = some r → Ev (fun n => L_impl_GoodThings_0_4 n x1 x1 (x1.length : Int) (IntKind.wrap .i64 ((k : Int) + 1))) r := by
      intro r h; rw [hw]; exact ih (k + 1) r hr2 h
    rw [P_impl_GoodThings_0_4] at h
    refine Ev.step ?_ (fun n => L_impl_GoodThings_0_4_eq n x1 x1 (x1.length : Int) (k : Int))
    rw [show decide ((k : Int) < (x1.length : Int)) = true from decide_eq_true (by omega), inB_nat2 hk, hx]
    exact Ev.pos rfl (Ev.pos rfl (Ev.ofBind h fun y1 h => (Ev.ofBif h (fun h => (Ev.ofSome h)) (fun h => (Ev.ofBif h (fun h => (Ev.ofBif h (fun h => (Ev.ofBind h fun y2 h => (Ev.ofBif h (fun h => (Ev.ofSome h)) (fun h => (Ev.ofBind h fun y3 h => (Ev.ofBif h (fun h => (Ev.ofSome h)) (fun h => (Ev.ofBind h fun y4 h => (Ev.ofBif h (fun h => (Ev.ofSome h)) (fun h => (ih2  _ h))))))))))) (fun h => (Ev.ofNone h)))) (fun h => (Ev.ofBind h fun y5 h => (Ev.ofBif h (fun h => (Ev.ofSome h)) (fun h => (Ev.ofBind h fun y6 h => (Ev.ofBif h (fun h => (Ev.ofSome h)) (fun h => (ih2  _ h)))))))))))))
theorem S_impl_GoodThings (a0 : (List DThing)) {r : Bool} (h : P_impl_GoodThings a0 = some r) : Ev (fun n => F_impl_GoodThings n a0) r := by
  rw [P_impl_GoodThings] at h
  refine Ev.of_eq ?_ (fun n => F_impl_GoodThings_eq n a0)
  exact (Ev.ofBif h (fun h => (Ev.ofSome h)) (fun h => (Ev.ofLen h fun hl h => S_impl_GoodThings_0_4 hl _ (0 : Nat) _ rfl h)))
theorem hcs_impl_GoodThings : ∀ x ∈ cs_impl_GoodThings, CtrOk Try.prog x := (conOf_cons ok_impl_ygoodRef (conOf_cons ok_impl_ycmpAtom (conOf_cons ok_impl_ygoodRefs (conOf_cons ok_impl_ygoodFields conOf_nil))))
theorem ok_impl_GoodThings : CtrOk Try.prog c_impl_GoodThings := by
  refine ctr_of_run (c := c_impl_GoodThings) (by kernel_rfl : Try.prog.funcs[19]? = some Try.f19) (code := Try.f19.body.getD .skip) (by kernel_rfl) (by kernel_rfl) (by kernel_rfl) (A := A_impl_GoodThings) (I := In_impl_GoodThings) hcs_impl_GoodThings ?_
  rintro ⟨a0, u⟩ y hy
  exact (S_impl_GoodThings a0 hy).get

/-! ## laws.szThing (55) -/
noncomputable def c_laws_szThing : Ctr := ⟨55, [TyThing, I64], [I64], fun x => szC TyThing x.1 x.2.1⟩
def A_laws_szThing : List (List Nat × Ann) := []
def In_laws_szThing : List (List Nat × Nat) := []
noncomputable def cs_laws_szThing : List Ctr := [c_laws_szAtom, c_laws_szAtomS, c_laws_szStringS, c_laws_szValueS]
noncomputable def F_laws_szThing (n : Nat) (a0 : DThing) (a1 : Int) : Option Int := run Try.prog A_laws_szThing In_laws_szThing (conOf cs_laws_szThing) Try.f55 (Try.f55.body.getD .skip) (packT [I64]) n (argsV [TyThing, I64] (a0, a1, ()))
theorem F_laws_szThing_eq (n : Nat) (a0 : DThing) (a1 : Int) : F_laws_szThing n a0 a1 =
    Option.bind (szC TyAtom a0.1 a1) fun (y1 : Int) =>
    bif decide (y1 < 0) then
      some (-1)
    else
      Option.bind (szC (.list TyAtom) a0.2.1 y1) fun (y2 : Int) =>
      bif decide (y2 < 0) then
        some (-1)
      else
        Option.bind (szC (.list .str) a0.2.2.1 y2) fun (y3 : Int) =>
        bif decide (y3 < 0) then
          some (-1)
        else
          Option.bind (szC (.list TyValue) a0.2.2.2 y3) fun (y4 : Int) =>
          bif decide (y4 < 0) then
            some (-1)
          else
            some y4 := by kernel_rfl
theorem mk_laws_szThing (hcs : ∀ x ∈ cs_laws_szThing, CtrOk Try.prog x) (h : ∀ (a0 : DThing) (a1 : Int) y, szC TyThing a0 a1 = some y → ∃ n, F_laws_szThing n a0 a1 = some y) : CtrOk Try.prog c_laws_szThing := by
  refine ctr_of_run (c := c_laws_szThing) (by kernel_rfl : Try.prog.funcs[55]? = some Try.f55) (code := Try.f55.body.getD .skip) (by kernel_rfl) (by kernel_rfl) (by kernel_rfl) (A := A_laws_szThing) (I := In_laws_szThing) hcs ?_
  rintro ⟨a0, a1, u⟩ y hy
  exact h a0 a1 y hy

theorem hcs_laws_szThing : ∀ x ∈ cs_laws_szThing, CtrOk Try.prog x := (conOf_cons ok_laws_szAtom (conOf_cons ok_laws_szAtomS (conOf_cons ok_laws_szStringS (conOf_cons ok_laws_szValueS conOf_nil))))
theorem ok_laws_szThing : CtrOk Try.prog c_laws_szThing := mk_laws_szThing hcs_laws_szThing fun a0 a1 y hy => by
  obtain ⟨hw, h0, h1, rfl⟩ := szC_inv hy
  have hw2 : wfD TyAtom a0.1 ∧ wfD (.list TyAtom) a0.2.1 ∧ wfD (.list .str) a0.2.2.1 ∧ wfD (.list TyValue) a0.2.2.2 := hw
  have hsz : Ty.size TyThing a0 = Ty.size TyAtom a0.1 + (Ty.size (.list TyAtom) a0.2.1 + (Ty.size (.list .str) a0.2.2.1 + (Ty.size (.list TyValue) a0.2.2.2))) := rfl
  refine ⟨0, ?_⟩
  rw [F_laws_szThing_eq, hsz]
  rw [szC_some hw2.1 (show 0 ≤ a1 by omega) (by omega)]
  simp only [Option.bind_some]
  rcases Int.lt_or_le (a1) ((Ty.size TyAtom a0.1 : Nat) : Int) with h | h
  · rw [show lessZ (a1) (Ty.size TyAtom a0.1) = -1 by unfold lessZ; rw [if_neg (by omega)]]; rw [decide_eq_true (show (-1 : Int) < 0 by omega)]; simp only [cond_true]; unfold lessZ; rw [if_neg (by omega)]
  rw [show lessZ (a1) (Ty.size TyAtom a0.1) = (a1 - ((Ty.size TyAtom a0.1 : Nat) : Int)) by unfold lessZ; rw [if_pos h]]; rw [decide_eq_false (show ¬ (a1 - ((Ty.size TyAtom a0.1 : Nat) : Int)) < 0 by omega)]; simp only [cond_false]
  have h_0 := h; clear h
  rw [szC_some hw2.2.1 (show 0 ≤ (a1 - ((Ty.size TyAtom a0.1 : Nat) : Int)) by omega) (by omega)]
  simp only [Option.bind_some]
  rcases Int.lt_or_le ((a1 - ((Ty.size TyAtom a0.1 : Nat) : Int))) ((Ty.size (.list TyAtom) a0.2.1 : Nat) : Int) with h | h
  · rw [show lessZ ((a1 - ((Ty.size TyAtom a0.1 : Nat) : Int))) (Ty.size (.list TyAtom) a0.2.1) = -1 by unfold lessZ; rw [if_neg (by omega)]]; rw [decide_eq_true (show (-1 : Int) < 0 by omega)]; simp only [cond_true]; unfold lessZ; rw [if_neg (by omega)]
  rw [show lessZ ((a1 - ((Ty.size TyAtom a0.1 : Nat) : Int))) (Ty.size (.list TyAtom) a0.2.1) = ((a1 - ((Ty.size TyAtom a0.1 : Nat) : Int)) - ((Ty.size (.list TyAtom) a0.2.1 : Nat) : Int)) by unfold lessZ; rw [if_pos h]]; rw [decide_eq_false (show ¬ ((a1 - ((Ty.size TyAtom a0.1 : Nat) : Int)) - ((Ty.size (.list TyAtom) a0.2.1 : Nat) : Int)) < 0 by omega)]; simp only [cond_false]
  have h_1 := h; clear h
  rw [szC_some hw2.2.2.1 (show 0 ≤ ((a1 - ((Ty.size TyAtom a0.1 : Nat) : Int)) - ((Ty.size (.list TyAtom) a0.2.1 : Nat) : Int)) by omega) (by omega)]
  simp only [Option.bind_some]
  rcases Int.lt_or_le (((a1 - ((Ty.size TyAtom a0.1 : Nat) : Int)) - ((Ty.size (.list TyAtom) a0.2.1 : Nat) : Int))) ((Ty.size (.list .str) a0.2.2.1 : Nat) : Int) with h | h
  · rw [show lessZ (((a1 - ((Ty.size TyAtom a0.1 : Nat) : Int)) - ((Ty.size (.list TyAtom) a0.2.1 : Nat) : Int))) (Ty.size (.list .str) a0.2.2.1) = -1 by unfold lessZ; rw [if_neg (by omega)]]; rw [decide_eq_true (show (-1 : Int) < 0 by omega)]; simp only [cond_true]; unfold lessZ; rw [if_neg (by omega)]
  rw [show lessZ (((a1 - ((Ty.size TyAtom a0.1 : Nat) : Int)) - ((Ty.size (.list TyAtom) a0.2.1 : Nat) : Int))) (Ty.size (.list .str) a0.2.2.1) = (((a1 - ((Ty.size TyAtom a0.1 : Nat) : Int)) - ((Ty.size (.list TyAtom) a0.2.1 : Nat) : Int)) - ((Ty.size (.list .str) a0.2.2.1 : Nat) : Int)) by unfold lessZ; rw [if_pos h]]; rw [decide_eq_false (show ¬ (((a1 - ((Ty.size TyAtom a0.1 : Nat) : Int)) - ((Ty.size (.list TyAtom) a0.2.1 : Nat) : Int)) - ((Ty.size (.list .str) a0.2.2.1 : Nat) : Int)) < 0 by omega)]; simp only [cond_false]
  have h_2 := h; clear h
  rw [szC_some hw2.2.2.2 (show 0 ≤ (((a1 - ((Ty.size TyAtom a0.1 : Nat) : Int)) - ((Ty.size (.list TyAtom) a0.2.1 : Nat) : Int)) - ((Ty.size (.list .str) a0.2.2.1 : Nat) : Int)) by omega) (by omega)]
  simp only [Option.bind_some]
  rcases Int.lt_or_le ((((a1 - ((Ty.size TyAtom a0.1 : Nat) : Int)) - ((Ty.size (.list TyAtom) a0.2.1 : Nat) : Int)) - ((Ty.size (.list .str) a0.2.2.1 : Nat) : Int))) ((Ty.size (.list TyValue) a0.2.2.2 : Nat) : Int) with h | h
  · rw [show lessZ ((((a1 - ((Ty.size TyAtom a0.1 : Nat) : Int)) - ((Ty.size (.list TyAtom) a0.2.1 : Nat) : Int)) - ((Ty.size (.list .str) a0.2.2.1 : Nat) : Int))) (Ty.size (.list TyValue) a0.2.2.2) = -1 by unfold lessZ; rw [if_neg (by omega)]]; rw [decide_eq_true (show (-1 : Int) < 0 by omega)]; simp only [cond_true]; unfold lessZ; rw [if_neg (by omega)]
  rw [show lessZ ((((a1 - ((Ty.size TyAtom a0.1 : Nat) : Int)) - ((Ty.size (.list TyAtom) a0.2.1 : Nat) : Int)) - ((Ty.size (.list .str) a0.2.2.1 : Nat) : Int))) (Ty.size (.list TyValue) a0.2.2.2) = ((((a1 - ((Ty.size TyAtom a0.1 : Nat) : Int)) - ((Ty.size (.list TyAtom) a0.2.1 : Nat) : Int)) - ((Ty.size (.list .str) a0.2.2.1 : Nat) : Int)) - ((Ty.size (.list TyValue) a0.2.2.2 : Nat) : Int)) by unfold lessZ; rw [if_pos h]]; rw [decide_eq_false (show ¬ ((((a1 - ((Ty.size TyAtom a0.1 : Nat) : Int)) - ((Ty.size (.list TyAtom) a0.2.1 : Nat) : Int)) - ((Ty.size (.list .str) a0.2.2.1 : Nat) : Int)) - ((Ty.size (.list TyValue) a0.2.2.2 : Nat) : Int)) < 0 by omega)]; simp only [cond_false]
  have h_3 := h; clear h
  unfold lessZ; rw [if_pos (by omega)]; congr 1; omega
/-! ## laws.szThingS (16) -/
noncomputable def c_laws_szThingS : Ctr := ⟨16, [(.list TyThing), I64], [I64], fun x => szC (.list TyThing) x.1 x.2.1⟩
def A_laws_szThingS : List (List Nat × Ann) := [([0, 5], [.keep 0 0, .keep 0 1, .keep 0 5])]
def In_laws_szThingS : List (List Nat × Nat) := []
noncomputable def cs_laws_szThingS : List Ctr := [c_laws_szThing]
noncomputable def F_laws_szThingS (n : Nat) (a0 : (List DThing)) (a1 : Int) : Option Int := run Try.prog A_laws_szThingS In_laws_szThingS (conOf cs_laws_szThingS) Try.f16 (Try.f16.body.getD .skip) (packT [I64]) n (argsV [(.list TyThing), I64] (a0, a1, ()))
noncomputable abbrev L_laws_szThingS_0_5 (n : Nat) (x1 : (List DThing)) (x2 : Int) (x3 : Int) : Option Int := lam Try.prog A_laws_szThingS In_laws_szThingS (conOf cs_laws_szThingS) Try.f16 (Try.f16.body.getD .skip) (packT [I64]) n [0, 5] [.d (.list TyThing) x1, .d I64 x2, .d I64 x3]
theorem F_laws_szThingS_eq (n : Nat) (a0 : (List DThing)) (a1 : Int) : F_laws_szThingS n a0 a1 =
    bif decide (IntKind.wrap .i64 (a1 - (a0.length : Int)) < 0) then
      some (-1)
    else
      L_laws_szThingS_0_5 n a0 (IntKind.wrap .i64 (a1 - (a0.length : Int))) 0 := by kernel_rfl
theorem L_laws_szThingS_0_5_eq (n : Nat) (x1 : (List DThing)) (x2 : Int) (x3 : Int) : L_laws_szThingS_0_5 (n + 1) x1 x2 x3 =
    bif decide (x3 < (x1.length : Int)) then
      bif inB x3 x1.length then
        Option.bind (szC TyThing (((rd x1 x3 (Ty.dflt TyThing)).1), ((rd x1 x3 (Ty.dflt TyThing)).2)) x2) fun (y1 : Int) =>
        bif decide (y1 < 0) then
          some (-1)
        else
          L_laws_szThingS_0_5 n x1 y1 (IntKind.wrap .i64 (x3 + 1))
      else none
    else
      some x2 := by kernel_rfl
theorem mk_laws_szThingS (hcs : ∀ x ∈ cs_laws_szThingS, CtrOk Try.prog x) (h : ∀ (a0 : (List DThing)) (a1 : Int) y, szC (.list TyThing) a0 a1 = some y → ∃ n, F_laws_szThingS n a0 a1 = some y) : CtrOk Try.prog c_laws_szThingS := by
  refine ctr_of_run (c := c_laws_szThingS) (by kernel_rfl : Try.prog.funcs[16]? = some Try.f16) (code := Try.f16.body.getD .skip) (by kernel_rfl) (by kernel_rfl) (by kernel_rfl) (A := A_laws_szThingS) (I := In_laws_szThingS) hcs ?_
  rintro ⟨a0, a1, u⟩ y hy
  exact h a0 a1 y hy

theorem hcs_laws_szThingS : ∀ x ∈ cs_laws_szThingS, CtrOk Try.prog x := (conOf_cons ok_laws_szThing conOf_nil)
theorem ok_laws_szThingS : CtrOk Try.prog c_laws_szThingS := mk_laws_szThingS hcs_laws_szThingS fun a0 a1 y hy => by
  obtain ⟨n, hn⟩ := szS_call (fun n xs s i => L_laws_szThingS_0_5_eq n xs s i) hy
  exact ⟨n, (F_laws_szThingS_eq n a0 a1).trans hn⟩
/-! ## laws.toThing (57) -/
noncomputable def c_laws_toThing : Ctr := ⟨57, [TyThing], [TyThing], fun x => toC TyThing x.1⟩
def A_laws_toThing : List (List Nat × Ann) := []
def In_laws_toThing : List (List Nat × Nat) := []
noncomputable def cs_laws_toThing : List Ctr := [c_laws_toAtom, c_laws_toAtomS, c_laws_toStringS, c_laws_toValueS]
noncomputable def F_laws_toThing (n : Nat) (a0 : DThing) : Option DThing := run Try.prog A_laws_toThing In_laws_toThing (conOf cs_laws_toThing) Try.f57 (Try.f57.body.getD .skip) (packT [TyThing]) n (argsV [TyThing] (a0, ()))
theorem F_laws_toThing_eq (n : Nat) (a0 : DThing) : F_laws_toThing n a0 =
    Option.bind (toC TyAtom a0.1) fun (y1 : DAtom) =>
    Option.bind (toC (.list TyAtom) a0.2.1) fun (y2 : (List DAtom)) =>
    Option.bind (toC (.list .str) a0.2.2.1) fun (y3 : (List (List Int))) =>
    Option.bind (toC (.list TyValue) a0.2.2.2) fun (y4 : (List DValue)) =>
    some (y1, y2, y3, y4) := by kernel_rfl
theorem mk_laws_toThing (hcs : ∀ x ∈ cs_laws_toThing, CtrOk Try.prog x) (h : ∀ (a0 : DThing) y, toC TyThing a0 = some y → ∃ n, F_laws_toThing n a0 = some y) : CtrOk Try.prog c_laws_toThing := by
  refine ctr_of_run (c := c_laws_toThing) (by kernel_rfl : Try.prog.funcs[57]? = some Try.f57) (code := Try.f57.body.getD .skip) (by kernel_rfl) (by kernel_rfl) (by kernel_rfl) (A := A_laws_toThing) (I := In_laws_toThing) hcs ?_
  rintro ⟨a0, u⟩ y hy
  exact h a0 y hy

theorem hcs_laws_toThing : ∀ x ∈ cs_laws_toThing, CtrOk Try.prog x := (conOf_cons ok_laws_toAtom (conOf_cons ok_laws_toAtomS (conOf_cons ok_laws_toStringS (conOf_cons ok_laws_toValueS conOf_nil))))
theorem ok_laws_toThing : CtrOk Try.prog c_laws_toThing := mk_laws_toThing hcs_laws_toThing fun a0 y hy => by
  obtain ⟨hw, hs, rfl⟩ := toC_inv hy
  have hw2 : wfD TyAtom y.1 ∧ wfD (.list TyAtom) y.2.1 ∧ wfD (.list .str) y.2.2.1 ∧ wfD (.list TyValue) y.2.2.2 := hw
  have hs2 : Ty.size TyAtom y.1 + (Ty.size (.list TyAtom) y.2.1 + (Ty.size (.list .str) y.2.2.1 + (Ty.size (.list TyValue) y.2.2.2))) ≤ 1073741824 := hs
  refine ⟨0, ?_⟩
  rw [F_laws_toThing_eq]
  try (rw [toC_some hw2.1 (by omega)]; simp only [Option.bind_some])
  try (rw [toC_some hw2.2.1 (by omega)]; simp only [Option.bind_some])
  try (rw [toC_some hw2.2.2.1 (by omega)]; simp only [Option.bind_some])
  try (rw [toC_some hw2.2.2.2 (by omega)]; simp only [Option.bind_some])
  try rfl
/-! ## laws.toThingS (18) -/
noncomputable def c_laws_toThingS : Ctr := ⟨18, [(.list TyThing)], [(.list TyThing)], fun x => toC (.list TyThing) x.1⟩
def A_laws_toThingS : List (List Nat × Ann) := [([0, 3], [.keep 0 0, .keep 0 3, .keep 0 4, .rows 0 7 TyThing])]
def In_laws_toThingS : List (List Nat × Nat) := []
noncomputable def cs_laws_toThingS : List Ctr := [c_laws_toThing]
noncomputable def F_laws_toThingS (n : Nat) (a0 : (List DThing)) : Option (List DThing) := run Try.prog A_laws_toThingS In_laws_toThingS (conOf cs_laws_toThingS) Try.f18 (Try.f18.body.getD .skip) (packT [(.list TyThing)]) n (argsV [(.list TyThing)] (a0, ()))
noncomputable abbrev L_laws_toThingS_0_3 (n : Nat) (x1 : (List DThing)) (x2 : Int) (x3 : (List DThing)) : Option (List DThing) := lam Try.prog A_laws_toThingS In_laws_toThingS (conOf cs_laws_toThingS) Try.f18 (Try.f18.body.getD .skip) (packT [(.list TyThing)]) n [0, 3] [.d (.list TyThing) x1, .msl 0 7, .d I64 x2, .d (.list TyThing) x3]
theorem F_laws_toThingS_eq (n : Nat) (a0 : (List DThing)) : F_laws_toThingS n a0 =
    bif decide ((a0.length : Int) = (a0.length : Int)) && decide ((0 : Int) ≤ (a0.length : Int)) && decide ((a0.length : Int) * 120 ≤ room) && true then
      L_laws_toThingS_0_3 n a0 0 (List.replicate (Int.toNat (a0.length : Int)) ((0, 0, ([] : List Int), ([] : List Int)), [], [], []))
    else none := by kernel_rfl
theorem L_laws_toThingS_0_3_eq (n : Nat) (x1 : (List DThing)) (x2 : Int) (x3 : (List DThing)) : L_laws_toThingS_0_3 (n + 1) x1 x2 x3 =
    bif decide (x2 < (x1.length : Int)) then
      bif inB x2 x1.length then
        Option.bind (toC TyThing (((rd x1 x2 (Ty.dflt TyThing)).1), ((rd x1 x2 (Ty.dflt TyThing)).2))) fun (y1 : DThing) =>
        bif inB x2 x3.length then
          bif inB x2 x3.length && true && true && true && true then
            L_laws_toThingS_0_3 n x1 (IntKind.wrap .i64 (x2 + 1)) (x3.set (Int.toNat x2) y1)
          else none
        else none
      else none
    else
      some x3 := by kernel_rfl
theorem mk_laws_toThingS (hcs : ∀ x ∈ cs_laws_toThingS, CtrOk Try.prog x) (h : ∀ (a0 : (List DThing)) y, toC (.list TyThing) a0 = some y → ∃ n, F_laws_toThingS n a0 = some y) : CtrOk Try.prog c_laws_toThingS := by
  refine ctr_of_run (c := c_laws_toThingS) (by kernel_rfl : Try.prog.funcs[18]? = some Try.f18) (code := Try.f18.body.getD .skip) (by kernel_rfl) (by kernel_rfl) (by kernel_rfl) (A := A_laws_toThingS) (I := In_laws_toThingS) hcs ?_
  rintro ⟨a0, u⟩ y hy
  exact h a0 y hy

theorem hcs_laws_toThingS : ∀ x ∈ cs_laws_toThingS, CtrOk Try.prog x := (conOf_cons ok_laws_toThing conOf_nil)
theorem ok_laws_toThingS : CtrOk Try.prog c_laws_toThingS := mk_laws_toThingS hcs_laws_toThingS fun a0 y hy => by
  obtain ⟨n, hn⟩ := toS_ok (t := TyThing) (f := toC TyThing) (fun x h h2 => toC_some h h2) (by_ := 120) (by omega) (fun n xs i out => L_laws_toThingS_0_3_eq n xs i out) hy
  exact ⟨n, (F_laws_toThingS_eq n a0).trans hn⟩
/-! ## laws.eqThing (60) -/
noncomputable def c_laws_eqThing : Ctr := ⟨60, [TyThing, TyThing], [.bool], fun x => eqC TyThing x.1 x.2.1⟩
def A_laws_eqThing : List (List Nat × Ann) := []
def In_laws_eqThing : List (List Nat × Nat) := []
noncomputable def cs_laws_eqThing : List Ctr := [c_laws_eqAtom, c_laws_eqAtomS, c_laws_eqStringS, c_laws_eqValueS]
noncomputable def F_laws_eqThing (n : Nat) (a0 : DThing) (a1 : DThing) : Option Bool := run Try.prog A_laws_eqThing In_laws_eqThing (conOf cs_laws_eqThing) Try.f60 (Try.f60.body.getD .skip) (packT [.bool]) n (argsV [TyThing, TyThing] (a0, a1, ()))
theorem F_laws_eqThing_eq (n : Nat) (a0 : DThing) (a1 : DThing) : F_laws_eqThing n a0 a1 =
    Option.bind (eqC TyAtom a0.1 a1.1) fun (y1 : Bool) =>
    bif !(y1) then
      some false
    else
      Option.bind (eqC (.list TyAtom) a0.2.1 a1.2.1) fun (y2 : Bool) =>
      bif !(y2) then
        some false
      else
        Option.bind (eqC (.list .str) a0.2.2.1 a1.2.2.1) fun (y3 : Bool) =>
        bif !(y3) then
          some false
        else
          Option.bind (eqC (.list TyValue) a0.2.2.2 a1.2.2.2) fun (y4 : Bool) =>
          bif !(y4) then
            some false
          else
            some true := by kernel_rfl
theorem mk_laws_eqThing (hcs : ∀ x ∈ cs_laws_eqThing, CtrOk Try.prog x) (h : ∀ (a0 : DThing) (a1 : DThing) y, eqC TyThing a0 a1 = some y → ∃ n, F_laws_eqThing n a0 a1 = some y) : CtrOk Try.prog c_laws_eqThing := by
  refine ctr_of_run (c := c_laws_eqThing) (by kernel_rfl : Try.prog.funcs[60]? = some Try.f60) (code := Try.f60.body.getD .skip) (by kernel_rfl) (by kernel_rfl) (by kernel_rfl) (A := A_laws_eqThing) (I := In_laws_eqThing) hcs ?_
  rintro ⟨a0, a1, u⟩ y hy
  exact h a0 a1 y hy

theorem hcs_laws_eqThing : ∀ x ∈ cs_laws_eqThing, CtrOk Try.prog x := (conOf_cons ok_laws_eqAtom (conOf_cons ok_laws_eqAtomS (conOf_cons ok_laws_eqStringS (conOf_cons ok_laws_eqValueS conOf_nil))))
theorem ok_laws_eqThing : CtrOk Try.prog c_laws_eqThing := mk_laws_eqThing hcs_laws_eqThing fun a0 a1 y hy => by
  obtain ⟨rfl, hw, rfl⟩ := eqC_inv hy
  have hw2 : wfD TyAtom a0.1 ∧ wfD (.list TyAtom) a0.2.1 ∧ wfD (.list .str) a0.2.2.1 ∧ wfD (.list TyValue) a0.2.2.2 := hw
  refine ⟨0, ?_⟩
  rw [F_laws_eqThing_eq]
  simp [eqC_some hw2.1, eqC_some hw2.2.1, eqC_some hw2.2.2.1, eqC_some hw2.2.2.2]
/-! ## laws.eqThingS (20) -/
noncomputable def c_laws_eqThingS : Ctr := ⟨20, [(.list TyThing), (.list TyThing)], [.bool], fun x => eqC (.list TyThing) x.1 x.2.1⟩
def A_laws_eqThingS : List (List Nat × Ann) := [([0, 4], [.keep 0 0, .keep 0 1, .keep 0 5])]
def In_laws_eqThingS : List (List Nat × Nat) := []
noncomputable def cs_laws_eqThingS : List Ctr := [c_laws_eqThing]
noncomputable def F_laws_eqThingS (n : Nat) (a0 : (List DThing)) (a1 : (List DThing)) : Option Bool := run Try.prog A_laws_eqThingS In_laws_eqThingS (conOf cs_laws_eqThingS) Try.f20 (Try.f20.body.getD .skip) (packT [.bool]) n (argsV [(.list TyThing), (.list TyThing)] (a0, a1, ()))
noncomputable abbrev L_laws_eqThingS_0_4 (n : Nat) (x1 : (List DThing)) (x2 : (List DThing)) (x3 : Int) : Option Bool := lam Try.prog A_laws_eqThingS In_laws_eqThingS (conOf cs_laws_eqThingS) Try.f20 (Try.f20.body.getD .skip) (packT [.bool]) n [0, 4] [.d (.list TyThing) x1, .d (.list TyThing) x2, .d I64 x3]
theorem F_laws_eqThingS_eq (n : Nat) (a0 : (List DThing)) (a1 : (List DThing)) : F_laws_eqThingS n a0 a1 =
    bif !decide ((a0.length : Int) = (a1.length : Int)) then
      some false
    else
      L_laws_eqThingS_0_4 n a0 a1 0 := by kernel_rfl
theorem L_laws_eqThingS_0_4_eq (n : Nat) (x1 : (List DThing)) (x2 : (List DThing)) (x3 : Int) : L_laws_eqThingS_0_4 (n + 1) x1 x2 x3 =
    bif decide (x3 < (x1.length : Int)) then
      bif inB x3 x1.length then
        bif inB x3 x2.length then
          Option.bind (eqC TyThing (((rd x1 x3 (Ty.dflt TyThing)).1), ((rd x1 x3 (Ty.dflt TyThing)).2)) (((rd x2 x3 (Ty.dflt TyThing)).1), ((rd x2 x3 (Ty.dflt TyThing)).2))) fun (y1 : Bool) =>
          bif !(y1) then
            some false
          else
            L_laws_eqThingS_0_4 n x1 x2 (IntKind.wrap .i64 (x3 + 1))
        else none
      else none
    else
      some true := by kernel_rfl
theorem mk_laws_eqThingS (hcs : ∀ x ∈ cs_laws_eqThingS, CtrOk Try.prog x) (h : ∀ (a0 : (List DThing)) (a1 : (List DThing)) y, eqC (.list TyThing) a0 a1 = some y → ∃ n, F_laws_eqThingS n a0 a1 = some y) : CtrOk Try.prog c_laws_eqThingS := by
  refine ctr_of_run (c := c_laws_eqThingS) (by kernel_rfl : Try.prog.funcs[20]? = some Try.f20) (code := Try.f20.body.getD .skip) (by kernel_rfl) (by kernel_rfl) (by kernel_rfl) (A := A_laws_eqThingS) (I := In_laws_eqThingS) hcs ?_
  rintro ⟨a0, a1, u⟩ y hy
  exact h a0 a1 y hy

theorem hcs_laws_eqThingS : ∀ x ∈ cs_laws_eqThingS, CtrOk Try.prog x := (conOf_cons ok_laws_eqThing conOf_nil)
theorem ok_laws_eqThingS : CtrOk Try.prog c_laws_eqThingS := mk_laws_eqThingS hcs_laws_eqThingS fun a0 a1 y hy => by
  obtain ⟨n, hn⟩ := eqS_ok (t := TyThing) (body := fun x y K => Option.bind (eqC TyThing x y) fun b => bif !b then some false else K ()) (fun x K h => by simp only [eqC_some h, Option.bind_some, Bool.not_true, cond_false]) (fun n xs ys i => L_laws_eqThingS_0_4_eq n xs ys i) hy
  exact ⟨n, (F_laws_eqThingS_eq n a0 a1).trans hn⟩
/-! ## laws.FnExactGoodThings (5) -/
noncomputable def P_laws_FnExactGoodThings (a0 : (List DThing)) : Option Bool :=
  Option.bind (szC (.list TyThing) a0 1048576) fun (y1 : Int) =>
  bif decide (y1 < 0) then
    some true
  else
    Option.bind (toC (.list TyThing) a0) fun (y2 : (List DThing)) =>
    Option.bind (P_spec_GoodThings y2) fun (y3 : Bool) =>
    Option.bind (toC (.list TyThing) a0) fun (y4 : (List DThing)) =>
    Option.bind (P_impl_GoodThings y4) fun (y5 : Bool) =>
    bif y5 != y3 then
      some false
    else
      Option.bind (toC (.list TyThing) a0) fun (y6 : (List DThing)) =>
      Option.bind (eqC (.list TyThing) y4 y6) fun (y7 : Bool) =>
      bif !(y7) then
        some false
      else
        some true
def A_laws_FnExactGoodThings : List (List Nat × Ann) := []
def In_laws_FnExactGoodThings : List (List Nat × Nat) := []
noncomputable def cs_laws_FnExactGoodThings : List Ctr := [c_laws_szThingS, c_laws_toThingS, c_spec_GoodThings, c_impl_GoodThings, c_laws_eqThingS]
noncomputable def F_laws_FnExactGoodThings (n : Nat) (a0 : (List DThing)) : Option Bool := run Try.prog A_laws_FnExactGoodThings In_laws_FnExactGoodThings (conOf cs_laws_FnExactGoodThings) Try.f5 (Try.f5.body.getD .skip) (packT [.bool]) n (argsV [(.list TyThing)] (a0, ()))
theorem F_laws_FnExactGoodThings_eq (n : Nat) (a0 : (List DThing)) : F_laws_FnExactGoodThings n a0 =
    Option.bind (szC (.list TyThing) a0 1048576) fun (y1 : Int) =>
    bif decide (y1 < 0) then
      some true
    else
      Option.bind (toC (.list TyThing) a0) fun (y2 : (List DThing)) =>
      Option.bind (P_spec_GoodThings y2) fun (y3 : Bool) =>
      Option.bind (toC (.list TyThing) a0) fun (y4 : (List DThing)) =>
      Option.bind (P_impl_GoodThings y4) fun (y5 : Bool) =>
      bif y5 != y3 then
        some false
      else
        Option.bind (toC (.list TyThing) a0) fun (y6 : (List DThing)) =>
        Option.bind (eqC (.list TyThing) y4 y6) fun (y7 : Bool) =>
        bif !(y7) then
          some false
        else
          some true := by kernel_rfl
theorem S_laws_FnExactGoodThings (a0 : (List DThing)) {r : Bool} (h : P_laws_FnExactGoodThings a0 = some r) : Ev (fun n => F_laws_FnExactGoodThings n a0) r := by
  rw [P_laws_FnExactGoodThings] at h
  refine Ev.of_eq ?_ (fun n => F_laws_FnExactGoodThings_eq n a0)
  exact (Ev.ofBind h fun y1 h => (Ev.ofBif h (fun h => (Ev.ofSome h)) (fun h => (Ev.ofBind h fun y2 h => (Ev.ofBind h fun y3 h => (Ev.ofBind h fun y4 h => (Ev.ofBind h fun y5 h => (Ev.ofBif h (fun h => (Ev.ofSome h)) (fun h => (Ev.ofBind h fun y6 h => (Ev.ofBind h fun y7 h => (Ev.ofBif h (fun h => (Ev.ofSome h)) (fun h => (Ev.ofSome h))))))))))))))

end Go.Ab
