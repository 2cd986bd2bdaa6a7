/- generated -/
import Derived.Test.YtpnloaokfmcpcaaGreatDoorAb23
import Derived.Test.YtpnloaokfmcpcaaGreatDoorProg
import Derived.KernelRfl
namespace Go.Ab
open Go.Proofs
set_option maxRecDepth 20000
abbrev I64 : Ty := .int .i64
abbrev U8 : Ty := .int .u8
abbrev TyboundsError : Ty := (.pair I64 (.pair I64 (.pair .bool U8)))
abbrev DboundsError : Type := (Int × (Int × (Bool × Int)))
abbrev TyerrorAddressString : Ty := (.pair .str (.int .u64))
abbrev DerrorAddressString : Type := ((List Int) × Int)
abbrev TyAttrKind : Ty := (.pair .str (.pair .str .bool))
abbrev DAttrKind : Type := ((List Int) × ((List Int) × Bool))
abbrev TyThingType : Ty := (.pair .str (.pair (.list .str) (.list TyAttrKind)))
abbrev DThingType : Type := ((List Int) × ((List (List Int)) × (List DAttrKind)))
abbrev TyActionType : Ty := (.pair .str (.pair (.list .str) (.pair (.list .str) (.list TyAttrKind))))
abbrev DActionType : Type := ((List Int) × ((List (List Int)) × ((List (List Int)) × (List DAttrKind))))
abbrev TyPolSchema : Ty := (.pair (.list TyThingType) (.list TyActionType))
abbrev DPolSchema : Type := ((List DThingType) × (List DActionType))
abbrev TyAtom : Ty := (.pair I64 (.pair I64 (.pair .str .str)))
abbrev DAtom : Type := (Int × (Int × ((List Int) × (List Int))))
abbrev TyValue : Ty := (.pair I64 (.pair TyAtom (.pair (.list TyAtom) (.list .str))))
abbrev DValue : Type := (Int × (DAtom × ((List DAtom) × (List (List Int)))))
abbrev TyThing : Ty := (.pair TyAtom (.pair (.list TyAtom) (.pair (.list .str) (.list TyValue))))
abbrev DThing : Type := (DAtom × ((List DAtom) × ((List (List Int)) × (List DValue))))
abbrev TyRequest : Ty := (.pair TyAtom (.pair TyAtom (.pair TyAtom (.pair (.list .str) (.list TyValue)))))
abbrev DRequest : Type := (DAtom × (DAtom × (DAtom × ((List (List Int)) × (List DValue)))))
abbrev TyExpr : Ty := (.pair I64 (.pair .str (.pair TyAtom I64)))
abbrev DExpr : Type := (Int × ((List Int) × (DAtom × Int)))
abbrev TyHead : Ty := (.pair I64 (.pair TyAtom .str))
abbrev DHead : Type := (Int × (DAtom × (List Int)))
abbrev TyPolicy : Ty := (.pair .str (.pair .bool (.pair TyHead (.pair TyHead (.pair TyHead (.list TyExpr))))))
abbrev DPolicy : Type := ((List Int) × (Bool × (DHead × (DHead × (DHead × (List DExpr))))))
abbrev Tyl10E : Ty := (.tree TyExpr)
abbrev Dl10E : Type := (Tree DExpr)
abbrev Tyl11I : Ty := (.pair TyPolSchema (.pair .str (.pair TyActionType .str)))
abbrev Dl11I : Type := (DPolSchema × ((List Int) × (DActionType × (List Int))))
abbrev TyBool : Ty := (.pair .unit (.int .u32))
abbrev DBool : Type := (Unit × Int)
abbrev TyMutex : Ty := (.pair (.int .i32) (.int .u32))
abbrev DMutex : Type := (Int × Int)
abbrev TyMutex1 : Ty := (.pair .unit (.pair (.int .i32) (.int .u32)))
abbrev DMutex1 : Type := (Unit × (Int × Int))
abbrev TyOnce : Ty := (.pair .unit (.pair TyBool (.pair .unit (.pair (.int .i32) (.int .u32)))))
abbrev DOnce : Type := (Unit × (DBool × (Unit × (Int × Int))))
/-! ## spec.l1Digit (160) -/
noncomputable def T_spec_l1Digit (a0 : Int) : Bool :=
  bif decide ((48 : Int) ≤ a0) then
    decide (a0 ≤ 57)
  else
    false
noncomputable def c_spec_l1Digit : Ctr := ⟨160, [U8], [.bool], fun x => some (T_spec_l1Digit x.1)⟩
def A_spec_l1Digit : List (List Nat × Ann) := []
def In_spec_l1Digit : List (List Nat × Nat) := []
noncomputable def cs_spec_l1Digit : List Ctr := []
noncomputable def F_spec_l1Digit (n : Nat) (a0 : Int) : Option Bool := run Tryz.prog A_spec_l1Digit In_spec_l1Digit (conOf cs_spec_l1Digit) Tryz.f160 (Tryz.f160.body.getD .skip) (packT [.bool]) n (argsV [U8] (a0, ()))
theorem F_spec_l1Digit_eq (n : Nat) (a0 : Int) : F_spec_l1Digit n a0 =
    bif decide ((48 : Int) ≤ a0) then
      some (decide (a0 ≤ 57))
    else
      some false := by kernel_rfl
theorem S_spec_l1Digit (n : Nat) (a0 : Int) : F_spec_l1Digit n a0 = some (T_spec_l1Digit a0) := (F_spec_l1Digit_eq n a0).trans (cond_some rfl rfl)
theorem hcs_spec_l1Digit : ∀ x ∈ cs_spec_l1Digit, CtrOk Tryz.prog x := conOf_nil
theorem ok_spec_l1Digit : CtrOk Tryz.prog (c_spec_l1Digit) := by
  refine ctr_of_run (c := c_spec_l1Digit) (by kernel_rfl) (by kernel_rfl : Tryz.prog.funcs[160]? = some Tryz.f160) (code := Tryz.f160.body.getD .skip) (by kernel_rfl) (by kernel_rfl) (by kernel_rfl) (A := A_spec_l1Digit) (I := In_spec_l1Digit) (hcs_spec_l1Digit) ?_
  rintro ⟨a0, u⟩ y hy
  exact ⟨0, (S_spec_l1Digit 0 a0).trans hy⟩

/-! ## spec.l1Letter (161) -/
noncomputable def T_spec_l1Letter (a0 : Int) : Bool :=
  bif decide ((97 : Int) ≤ a0) then
    bif decide (a0 ≤ 122) then
      true
    else
      bif decide ((65 : Int) ≤ a0) then
        decide (a0 ≤ 90)
      else
        false
  else
    bif decide ((65 : Int) ≤ a0) then
      decide (a0 ≤ 90)
    else
      false
noncomputable def c_spec_l1Letter : Ctr := ⟨161, [U8], [.bool], fun x => some (T_spec_l1Letter x.1)⟩
def A_spec_l1Letter : List (List Nat × Ann) := []
def In_spec_l1Letter : List (List Nat × Nat) := []
noncomputable def cs_spec_l1Letter : List Ctr := []
noncomputable def F_spec_l1Letter (n : Nat) (a0 : Int) : Option Bool := run Tryz.prog A_spec_l1Letter In_spec_l1Letter (conOf cs_spec_l1Letter) Tryz.f161 (Tryz.f161.body.getD .skip) (packT [.bool]) n (argsV [U8] (a0, ()))
theorem F_spec_l1Letter_eq (n : Nat) (a0 : Int) : F_spec_l1Letter n a0 =
    bif decide ((97 : Int) ≤ a0) then
      bif decide (a0 ≤ 122) then
        some true
      else
        bif decide ((65 : Int) ≤ a0) then
          some (decide (a0 ≤ 90))
        else
          some false
    else
      bif decide ((65 : Int) ≤ a0) then
        some (decide (a0 ≤ 90))
      else
        some false := by kernel_rfl
theorem S_spec_l1Letter (n : Nat) (a0 : Int) : F_spec_l1Letter n a0 = some (T_spec_l1Letter a0) := (F_spec_l1Letter_eq n a0).trans (cond_some (cond_some rfl (cond_some rfl rfl)) (cond_some rfl rfl))
theorem hcs_spec_l1Letter : ∀ x ∈ cs_spec_l1Letter, CtrOk Tryz.prog x := conOf_nil
theorem ok_spec_l1Letter : CtrOk Tryz.prog (c_spec_l1Letter) := by
  refine ctr_of_run (c := c_spec_l1Letter) (by kernel_rfl) (by kernel_rfl : Tryz.prog.funcs[161]? = some Tryz.f161) (code := Tryz.f161.body.getD .skip) (by kernel_rfl) (by kernel_rfl) (by kernel_rfl) (A := A_spec_l1Letter) (I := In_spec_l1Letter) (hcs_spec_l1Letter) ?_
  rintro ⟨a0, u⟩ y hy
  exact ⟨0, (S_spec_l1Letter 0 a0).trans hy⟩

/-! ## spec.GoodName (85) -/
noncomputable def P_spec_GoodName_0_4 : List Int → Option Bool
  | [] =>
      some true
  | e :: rest =>
      bif !(T_spec_l1Letter (e)) then
        bif !(T_spec_l1Digit (e)) then
          bif !decide (e = 95) then
            some false
          else
            P_spec_GoodName_0_4 rest
        else
          P_spec_GoodName_0_4 rest
      else
        P_spec_GoodName_0_4 rest
noncomputable def P_spec_GoodName (a0 : (List Int)) : Option Bool :=
  bif decide ((a0.length : Int) < 1) then
    some false
  else
    bif decide ((30 : Int) < (a0.length : Int)) then
      some false
    else
      bif inB 0 a0.length then
        bif T_spec_l1Digit (rd a0 0 0) then
          some false
        else
          lenOk a0 (P_spec_GoodName_0_4 a0)
      else none
noncomputable def c_spec_GoodName : Ctr := ⟨85, [.str], [.bool], fun x => P_spec_GoodName x.1⟩
def A_spec_GoodName : List (List Nat × Ann) := [([0, 4], [.keep 0 0, .keep 0 3])]
def In_spec_GoodName : List (List Nat × Nat) := []
noncomputable def cs_spec_GoodName : List Ctr := [c_spec_l1Digit, c_spec_l1Letter]
noncomputable def F_spec_GoodName (n : Nat) (a0 : (List Int)) : Option Bool := run Tryz.prog A_spec_GoodName In_spec_GoodName (conOf cs_spec_GoodName) Tryz.f85 (Tryz.f85.body.getD .skip) (packT [.bool]) n (argsV [.str] (a0, ()))
noncomputable abbrev L_spec_GoodName_0_4 (n : Nat) (x1 : (List Int)) (x2 : Int) : Option Bool := lam Tryz.prog A_spec_GoodName In_spec_GoodName (conOf cs_spec_GoodName) Tryz.f85 (Tryz.f85.body.getD .skip) (packT [.bool]) n [0, 4] [.d .str x1, .d I64 x2]
theorem F_spec_GoodName_eq (n : Nat) (a0 : (List Int)) : F_spec_GoodName n a0 =
    bif decide ((a0.length : Int) < 1) then
      some false
    else
      bif decide ((30 : Int) < (a0.length : Int)) then
        some false
      else
        bif inB 0 a0.length then
          bif T_spec_l1Digit (rd a0 0 0) then
            some false
          else
            L_spec_GoodName_0_4 n a0 0
        else none := by kernel_rfl
theorem L_spec_GoodName_0_4_eq (n : Nat) (x1 : (List Int)) (x2 : Int) : L_spec_GoodName_0_4 (n + 1) x1 x2 =
    bif decide (x2 < (x1.length : Int)) then
      bif inB x2 x1.length then
        bif !(T_spec_l1Letter (rd x1 x2 0)) then
          bif inB x2 x1.length then
            bif !(T_spec_l1Digit (rd x1 x2 0)) then
              bif inB x2 x1.length then
                bif !decide (rd x1 x2 0 = 95) then
                  some false
                else
                  L_spec_GoodName_0_4 n x1 (IntKind.wrap .i64 (x2 + 1))
              else none
            else
              L_spec_GoodName_0_4 n x1 (IntKind.wrap .i64 (x2 + 1))
          else none
        else
          L_spec_GoodName_0_4 n x1 (IntKind.wrap .i64 (x2 + 1))
      else none
    else
      some true := by kernel_rfl
theorem S_spec_GoodName_0_4 {x1 : (List Int)} (hl : x1.length ≤ maxLen) : ∀ (rest : List Int) (k : Nat) (r : Bool), rest = x1.drop k → P_spec_GoodName_0_4 rest = some r → Ev (fun n => L_spec_GoodName_0_4 n x1 (k : Int)) r := by
  intro rest
  induction rest with
  | nil =>
    intro k r hr h
    have hk := drop_nil hr
    rw [P_spec_GoodName_0_4] at h
    refine Ev.step ?_ (fun n => L_spec_GoodName_0_4_eq n x1 (k : Int))
    rw [show decide ((k : Int) < (x1.length : Int)) = false from decide_eq_false (by omega)]
    exact Ev.neg rfl (Ev.ofSome h)
  | cons e rest ih =>
    intro k r hr h
    obtain ⟨hk, hx, hr2⟩ := drop_cons (d := 0) hr
    have hw := wrap_succ hl hk
    have ih2 : ∀ (r : Bool), P_spec_GoodName_0_4 rest = some r → Ev (fun n => L_spec_GoodName_0_4 n x1 (IntKind.wrap .i64 ((k : Int) + 1))) r := by
      intro r h; rw [hw]; exact ih (k + 1) r hr2 h
    rw [P_spec_GoodName_0_4] at h
    refine Ev.step ?_ (fun n => L_spec_GoodName_0_4_eq n x1 (k : Int))
    rw [show decide ((k : Int) < (x1.length : Int)) = true from decide_eq_true (by omega), inB_nat2 hk, hx]
    exact Ev.pos rfl (Ev.pos rfl (Ev.ofBif h (fun h => (Ev.pos rfl (Ev.ofBif h (fun h => (Ev.pos rfl (Ev.ofBif h (fun h => (Ev.ofSome h)) (fun h => (ih2  _ h))))) (fun h => (ih2  _ h))))) (fun h => (ih2  _ h))))
theorem S_spec_GoodName (a0 : (List Int)) {r : Bool} (h : P_spec_GoodName a0 = some r) : Ev (fun n => F_spec_GoodName n a0) r := by
  rw [P_spec_GoodName] at h
  refine Ev.of_eq ?_ (fun n => F_spec_GoodName_eq n a0)
  exact (Ev.ofBif h (fun h => (Ev.ofSome h)) (fun h => (Ev.ofBif h (fun h => (Ev.ofSome h)) (fun h => (Ev.ofBif h (fun h => (Ev.ofBif h (fun h => (Ev.ofSome h)) (fun h => (Ev.ofLen h fun hl h => S_spec_GoodName_0_4 hl _ (0 : Nat) _ rfl h)))) (fun h => (Ev.ofNone h)))))))
theorem hcs_spec_GoodName : ∀ x ∈ cs_spec_GoodName, CtrOk Tryz.prog x := (conOf_cons ok_spec_l1Digit (conOf_cons ok_spec_l1Letter conOf_nil))
theorem ok_spec_GoodName : CtrOk Tryz.prog (c_spec_GoodName) := by
  refine ctr_of_run (c := c_spec_GoodName) (by kernel_rfl) (by kernel_rfl : Tryz.prog.funcs[85]? = some Tryz.f85) (code := Tryz.f85.body.getD .skip) (by kernel_rfl) (by kernel_rfl) (by kernel_rfl) (A := A_spec_GoodName) (I := In_spec_GoodName) (hcs_spec_GoodName) ?_
  rintro ⟨a0, u⟩ y hy
  exact (S_spec_GoodName a0 hy).get

/-! ## spec.l1CmpNum (162) -/
noncomputable def T_spec_l1CmpNum (a0 : Int) (a1 : Int) : Int :=
  bif decide (a0 < a1) then
    (-1)
  else
    bif decide (a1 < a0) then
      1
    else
      0
noncomputable def c_spec_l1CmpNum : Ctr := ⟨162, [I64, I64], [I64], fun x => some (T_spec_l1CmpNum x.1 x.2.1)⟩
def A_spec_l1CmpNum : List (List Nat × Ann) := []
def In_spec_l1CmpNum : List (List Nat × Nat) := []
noncomputable def cs_spec_l1CmpNum : List Ctr := []
noncomputable def F_spec_l1CmpNum (n : Nat) (a0 : Int) (a1 : Int) : Option Int := run Tryz.prog A_spec_l1CmpNum In_spec_l1CmpNum (conOf cs_spec_l1CmpNum) Tryz.f162 (Tryz.f162.body.getD .skip) (packT [I64]) n (argsV [I64, I64] (a0, a1, ()))
theorem F_spec_l1CmpNum_eq (n : Nat) (a0 : Int) (a1 : Int) : F_spec_l1CmpNum n a0 a1 =
    bif decide (a0 < a1) then
      some (-1)
    else
      bif decide (a1 < a0) then
        some 1
      else
        some 0 := by kernel_rfl
theorem S_spec_l1CmpNum (n : Nat) (a0 : Int) (a1 : Int) : F_spec_l1CmpNum n a0 a1 = some (T_spec_l1CmpNum a0 a1) := (F_spec_l1CmpNum_eq n a0 a1).trans (cond_some rfl (cond_some rfl rfl))
theorem hcs_spec_l1CmpNum : ∀ x ∈ cs_spec_l1CmpNum, CtrOk Tryz.prog x := conOf_nil
theorem ok_spec_l1CmpNum : CtrOk Tryz.prog (c_spec_l1CmpNum) := by
  refine ctr_of_run (c := c_spec_l1CmpNum) (by kernel_rfl) (by kernel_rfl : Tryz.prog.funcs[162]? = some Tryz.f162) (code := Tryz.f162.body.getD .skip) (by kernel_rfl) (by kernel_rfl) (by kernel_rfl) (A := A_spec_l1CmpNum) (I := In_spec_l1CmpNum) (hcs_spec_l1CmpNum) ?_
  rintro ⟨a0, a1, u⟩ y hy
  exact ⟨0, (S_spec_l1CmpNum 0 a0 a1).trans hy⟩

/-! ## spec.l1CmpText (86) -/
noncomputable def P_spec_l1CmpText_0_2 (x1 : (List Int)) (x2 : (List Int)) : List Int → Nat → Option Int
  | [], k =>
      some (T_spec_l1CmpNum (x1.length : Int) (x2.length : Int))
  | e :: rest, k =>
      bif decide ((k : Int) < (x2.length : Int)) then
        bif inB (k : Int) x2.length then
          bif !decide (e = rd x2 (k : Int) 0) then
            bif inB (k : Int) x2.length then
              some (T_spec_l1CmpNum (IntKind.wrap .i64 (e)) (IntKind.wrap .i64 (rd x2 (k : Int) 0)))
            else none
          else
            P_spec_l1CmpText_0_2 x1 x2 rest (k + 1)
        else none
      else
        some (T_spec_l1CmpNum (x1.length : Int) (x2.length : Int))
noncomputable def P_spec_l1CmpText (a0 : (List Int)) (a1 : (List Int)) : Option Int :=
  lenOk a0 (P_spec_l1CmpText_0_2 a0 a1 a0 0)
noncomputable def c_spec_l1CmpText : Ctr := ⟨86, [.str, .str], [I64], fun x => P_spec_l1CmpText x.1 x.2.1⟩
def A_spec_l1CmpText : List (List Nat × Ann) := [([0, 2], [.keep 0 0, .keep 0 1, .keep 0 5])]
def In_spec_l1CmpText : List (List Nat × Nat) := []
noncomputable def cs_spec_l1CmpText : List Ctr := [c_spec_l1CmpNum]
noncomputable def F_spec_l1CmpText (n : Nat) (a0 : (List Int)) (a1 : (List Int)) : Option Int := run Tryz.prog A_spec_l1CmpText In_spec_l1CmpText (conOf cs_spec_l1CmpText) Tryz.f86 (Tryz.f86.body.getD .skip) (packT [I64]) n (argsV [.str, .str] (a0, a1, ()))
noncomputable abbrev L_spec_l1CmpText_0_2 (n : Nat) (x1 : (List Int)) (x2 : (List Int)) (x3 : Int) : Option Int := lam Tryz.prog A_spec_l1CmpText In_spec_l1CmpText (conOf cs_spec_l1CmpText) Tryz.f86 (Tryz.f86.body.getD .skip) (packT [I64]) n [0, 2] [.d .str x1, .d .str x2, .d I64 x3]
theorem F_spec_l1CmpText_eq (n : Nat) (a0 : (List Int)) (a1 : (List Int)) : F_spec_l1CmpText n a0 a1 =
    L_spec_l1CmpText_0_2 n a0 a1 0 := by kernel_rfl
theorem L_spec_l1CmpText_0_2_eq (n : Nat) (x1 : (List Int)) (x2 : (List Int)) (x3 : Int) : L_spec_l1CmpText_0_2 (n + 1) x1 x2 x3 =
    bif decide (x3 < (x1.length : Int)) then
      bif decide (x3 < (x2.length : Int)) then
        bif inB x3 x1.length then
          bif inB x3 x2.length then
            bif !decide (rd x1 x3 0 = rd x2 x3 0) then
              bif inB x3 x1.length then
                bif inB x3 x2.length then
                  some (T_spec_l1CmpNum (IntKind.wrap .i64 (rd x1 x3 0)) (IntKind.wrap .i64 (rd x2 x3 0)))
                else none
              else none
            else
              L_spec_l1CmpText_0_2 n x1 x2 (IntKind.wrap .i64 (x3 + 1))
          else none
        else none
      else
        some (T_spec_l1CmpNum (x1.length : Int) (x2.length : Int))
    else
      some (T_spec_l1CmpNum (x1.length : Int) (x2.length : Int)) := by kernel_rfl
theorem S_spec_l1CmpText_0_2 {x1 : (List Int)} {x2 : (List Int)} (hl : x1.length ≤ maxLen) : ∀ (rest : List Int) (k : Nat) (r : Int), rest = x1.drop k → P_spec_l1CmpText_0_2 x1 x2 rest k = some r → Ev (fun n => L_spec_l1CmpText_0_2 n x1 x2 (k : Int)) r := by
  intro rest
  induction rest with
  | nil =>
    intro k r hr h
    have hk := drop_nil hr
    rw [P_spec_l1CmpText_0_2] at h
    refine Ev.step ?_ (fun n => L_spec_l1CmpText_0_2_eq n x1 x2 (k : Int))
    rw [show decide ((k : Int) < (x1.length : Int)) = false from decide_eq_false (by omega)]
    exact Ev.neg rfl (Ev.ofSome h)
  | cons e rest ih =>
    intro k r hr h
    obtain ⟨hk, hx, hr2⟩ := drop_cons (d := 0) hr
    have hw := wrap_succ hl hk
    have ih2 : ∀ (r : Int), P_spec_l1CmpText_0_2 x1 x2 rest (k + 1) = some r → Ev (fun n => L_spec_l1CmpText_0_2 n x1 x2 (IntKind.wrap .i64 ((k : Int) + 1))) r := by
      intro r h; rw [hw]; exact ih (k + 1) r hr2 h
    rw [P_spec_l1CmpText_0_2] at h
    refine Ev.step ?_ (fun n => L_spec_l1CmpText_0_2_eq n x1 x2 (k : Int))
    rw [show decide ((k : Int) < (x1.length : Int)) = true from decide_eq_true (by omega), inB_nat2 hk, hx]
    exact Ev.pos rfl (Ev.ofBif h (fun h => (Ev.pos rfl (Ev.ofBif h (fun h => (Ev.ofBif h (fun h => (Ev.pos rfl (Ev.ofBif h (fun h => (Ev.ofSome h)) (fun h => (Ev.ofNone h))))) (fun h => (ih2  _ h)))) (fun h => (Ev.ofNone h))))) (fun h => (Ev.ofSome h)))
theorem S_spec_l1CmpText (a0 : (List Int)) (a1 : (List Int)) {r : Int} (h : P_spec_l1CmpText a0 a1 = some r) : Ev (fun n => F_spec_l1CmpText n a0 a1) r := by
  rw [P_spec_l1CmpText] at h
  refine Ev.of_eq ?_ (fun n => F_spec_l1CmpText_eq n a0 a1)
  exact (Ev.ofLen h fun hl h => S_spec_l1CmpText_0_2 hl _ (0 : Nat) _ rfl h)
theorem hcs_spec_l1CmpText : ∀ x ∈ cs_spec_l1CmpText, CtrOk Tryz.prog x := (conOf_cons ok_spec_l1CmpNum conOf_nil)
theorem ok_spec_l1CmpText : CtrOk Tryz.prog (c_spec_l1CmpText) := by
  refine ctr_of_run (c := c_spec_l1CmpText) (by kernel_rfl) (by kernel_rfl : Tryz.prog.funcs[86]? = some Tryz.f86) (code := Tryz.f86.body.getD .skip) (by kernel_rfl) (by kernel_rfl) (by kernel_rfl) (A := A_spec_l1CmpText) (I := In_spec_l1CmpText) (hcs_spec_l1CmpText) ?_
  rintro ⟨a0, a1, u⟩ y hy
  exact (S_spec_l1CmpText a0 a1 hy).get

/-! ## spec.l11ThingType (39) -/
noncomputable def P_spec_l11ThingType_0_2 (x1 : (List Int)) : List DThingType → Option (DThingType × Bool)
  | [] =>
      some ((([] : List Int), [], []), false)
  | e :: rest =>
      bif decide ((e).1 = x1) then
        some ((e), true)
      else
        P_spec_l11ThingType_0_2 x1 rest
noncomputable def P_spec_l11ThingType (a0 : DPolSchema) (a1 : (List Int)) : Option (DThingType × Bool) :=
  lenOk a0.1 (P_spec_l11ThingType_0_2 a1 a0.1)
noncomputable def c_spec_l11ThingType : Ctr := ⟨39, [TyPolSchema, .str], [TyThingType, .bool], fun x => P_spec_l11ThingType x.1 x.2.1⟩
def A_spec_l11ThingType : List (List Nat × Ann) := [([0, 2], [.keep 0 1, .keep 0 4, .keep 0 9, .keep 0 10, .keep 0 11, .boxd 0 4 TyThingType])]
def In_spec_l11ThingType : List (List Nat × Nat) := []
noncomputable def cs_spec_l11ThingType : List Ctr := []
noncomputable def F_spec_l11ThingType (n : Nat) (a0 : DPolSchema) (a1 : (List Int)) : Option (DThingType × Bool) := run Tryz.prog A_spec_l11ThingType In_spec_l11ThingType (conOf cs_spec_l11ThingType) Tryz.f39 (Tryz.f39.body.getD .skip) (packT [TyThingType, .bool]) n (argsV [TyPolSchema, .str] (a0, a1, ()))
noncomputable abbrev L_spec_l11ThingType_0_2 (n : Nat) (x1 : (List Int)) (x2 : (List DThingType)) (x3 : Int) (x4 : Int) (x5 : DThingType) : Option (DThingType × Bool) := lam Tryz.prog A_spec_l11ThingType In_spec_l11ThingType (conOf cs_spec_l11ThingType) Tryz.f39 (Tryz.f39.body.getD .skip) (packT [TyThingType, .bool]) n [0, 2] [.d .str x1, .ptr 0 4 0, .d (.list TyThingType) x2, .d I64 x3, .d I64 x4, .agg (explode TyThingType x5)]
theorem F_spec_l11ThingType_eq (n : Nat) (a0 : DPolSchema) (a1 : (List Int)) : F_spec_l11ThingType n a0 a1 =
    L_spec_l11ThingType_0_2 n a1 a0.1 (a0.1.length : Int) 0 (([] : List Int), [], []) := by kernel_rfl
theorem L_spec_l11ThingType_0_2_eq (n : Nat) (x1 : (List Int)) (x2 : (List DThingType)) (x3 : Int) (x4 : Int) (x5 : DThingType) : L_spec_l11ThingType_0_2 (n + 1) x1 x2 x3 x4 x5 =
    bif decide (x4 < x3) then
      bif inB x4 x2.length then
        bif decide ((rd x2 x4 (Ty.dflt TyThingType)).1 = x1) then
          some ((rd x2 x4 (Ty.dflt TyThingType)), true)
        else
          L_spec_l11ThingType_0_2 n x1 x2 x3 (IntKind.wrap .i64 (x4 + 1)) x5
      else none
    else
      some ((([] : List Int), [], []), false) := by kernel_rfl
theorem S_spec_l11ThingType_0_2 {x1 : (List Int)} {x2 : (List DThingType)} {x5 : DThingType} (hl : x2.length ≤ maxLen) : ∀ (rest : List DThingType) (k : Nat) (r : (DThingType × Bool)), rest = x2.drop k → P_spec_l11ThingType_0_2 x1 rest = some r → Ev (fun n => L_spec_l11ThingType_0_2 n x1 x2 (x2.length : Int) (k : Int) x5) r := by
  intro rest
  induction rest with
  | nil =>
    intro k r hr h
    have hk := drop_nil hr
    rw [P_spec_l11ThingType_0_2] at h
    refine Ev.step ?_ (fun n => L_spec_l11ThingType_0_2_eq n x1 x2 (x2.length : Int) (k : Int) x5)
    rw [show decide ((k : Int) < (x2.length : Int)) = false from decide_eq_false (by omega)]
    exact Ev.neg rfl (Ev.ofSome h)
  | cons e rest ih =>
    intro k r hr h
    obtain ⟨hk, hx, hr2⟩ := drop_cons (d := (Ty.dflt TyThingType)) hr
    have hw := wrap_succ hl hk
    have ih2 : ∀ (r : (DThingType × Bool)), P_spec_l11ThingType_0_2 x1 rest = some r → Ev (fun n => L_spec_l11ThingType_0_2 n x1 x2 (x2.length : Int) (IntKind.wrap .i64 ((k : Int) + 1)) x5) r := by
      intro r h; rw [hw]; exact ih (k + 1) r hr2 h
    rw [P_spec_l11ThingType_0_2] at h
    refine Ev.step ?_ (fun n => L_spec_l11ThingType_0_2_eq n x1 x2 (x2.length : Int) (k : Int) x5)
    rw [show decide ((k : Int) < (x2.length : Int)) = true from decide_eq_true (by omega), inB_nat2 hk, hx]
    exact Ev.pos rfl (Ev.pos rfl (Ev.ofBif h (fun h => (Ev.ofSome h)) (fun h => (ih2  _ h))))
theorem S_spec_l11ThingType (a0 : DPolSchema) (a1 : (List Int)) {r : (DThingType × Bool)} (h : P_spec_l11ThingType a0 a1 = some r) : Ev (fun n => F_spec_l11ThingType n a0 a1) r := by
  rw [P_spec_l11ThingType] at h
  refine Ev.of_eq ?_ (fun n => F_spec_l11ThingType_eq n a0 a1)
  exact (Ev.ofLen h fun hl h => S_spec_l11ThingType_0_2 hl _ (0 : Nat) _ rfl h)
theorem hcs_spec_l11ThingType : ∀ x ∈ cs_spec_l11ThingType, CtrOk Tryz.prog x := conOf_nil
theorem ok_spec_l11ThingType : CtrOk Tryz.prog (c_spec_l11ThingType) := by
  refine ctr_of_run (c := c_spec_l11ThingType) (by kernel_rfl) (by kernel_rfl : Tryz.prog.funcs[39]? = some Tryz.f39) (code := Tryz.f39.body.getD .skip) (by kernel_rfl) (by kernel_rfl) (by kernel_rfl) (A := A_spec_l11ThingType) (I := In_spec_l11ThingType) (hcs_spec_l11ThingType) ?_
  rintro ⟨a0, a1, u⟩ y hy
  exact (S_spec_l11ThingType a0 a1 hy).get

/-! ## spec.l3Rising (142) -/
noncomputable def P_spec_l3Rising_0_2 (x1 : (List (List Int))) : List (List Int) → Nat → Option Bool
  | [], k =>
      some true
  | e :: rest, k =>
      bif inB (IntKind.wrap .i64 ((k : Int) - 1)) x1.length then
        Option.bind (P_spec_l1CmpText (rd x1 (IntKind.wrap .i64 ((k : Int) - 1)) (Ty.dflt .str)) (e)) fun (y1 : Int) =>
        bif decide ((0 : Int) ≤ y1) then
          some false
        else
          P_spec_l3Rising_0_2 x1 rest (k + 1)
      else none
noncomputable def P_spec_l3Rising (a0 : (List (List Int))) : Option Bool :=
  lenOk a0 (P_spec_l3Rising_0_2 a0 (a0.drop 1) 1)
noncomputable def c_spec_l3Rising : Ctr := ⟨142, [(.list .str)], [.bool], fun x => P_spec_l3Rising x.1⟩
def A_spec_l3Rising : List (List Nat × Ann) := [([0, 2], [.keep 0 0, .keep 0 3])]
def In_spec_l3Rising : List (List Nat × Nat) := []
noncomputable def cs_spec_l3Rising : List Ctr := [c_spec_l1CmpText]
noncomputable def F_spec_l3Rising (n : Nat) (a0 : (List (List Int))) : Option Bool := run Tryz.prog A_spec_l3Rising In_spec_l3Rising (conOf cs_spec_l3Rising) Tryz.f142 (Tryz.f142.body.getD .skip) (packT [.bool]) n (argsV [(.list .str)] (a0, ()))
noncomputable abbrev L_spec_l3Rising_0_2 (n : Nat) (x1 : (List (List Int))) (x2 : Int) : Option Bool := lam Tryz.prog A_spec_l3Rising In_spec_l3Rising (conOf cs_spec_l3Rising) Tryz.f142 (Tryz.f142.body.getD .skip) (packT [.bool]) n [0, 2] [.d (.list .str) x1, .d I64 x2]
theorem F_spec_l3Rising_eq (n : Nat) (a0 : (List (List Int))) : F_spec_l3Rising n a0 =
    L_spec_l3Rising_0_2 n a0 1 := by kernel_rfl
theorem L_spec_l3Rising_0_2_eq (n : Nat) (x1 : (List (List Int))) (x2 : Int) : L_spec_l3Rising_0_2 (n + 1) x1 x2 =
    bif decide (x2 < (x1.length : Int)) then
      bif inB (IntKind.wrap .i64 (x2 - 1)) x1.length then
        bif inB x2 x1.length then
          Option.bind (P_spec_l1CmpText (rd x1 (IntKind.wrap .i64 (x2 - 1)) (Ty.dflt .str)) (rd x1 x2 (Ty.dflt .str))) fun (y1 : Int) =>
          bif decide ((0 : Int) ≤ y1) then
            some false
          else
            L_spec_l3Rising_0_2 n x1 (IntKind.wrap .i64 (x2 + 1))
        else none
      else none
    else
      some true := by kernel_rfl
theorem S_spec_l3Rising_0_2 {x1 : (List (List Int))} (hl : x1.length ≤ maxLen) : ∀ (rest : List (List Int)) (k : Nat) (r : Bool), rest = x1.drop k → P_spec_l3Rising_0_2 x1 rest k = some r → Ev (fun n => L_spec_l3Rising_0_2 n x1 (k : Int)) r := by
  intro rest
  induction rest with
  | nil =>
    intro k r hr h
    have hk := drop_nil hr
    rw [P_spec_l3Rising_0_2] at h
    refine Ev.step ?_ (fun n => L_spec_l3Rising_0_2_eq n x1 (k : Int))
    rw [show decide ((k : Int) < (x1.length : Int)) = false from decide_eq_false (by omega)]
    exact Ev.neg rfl (Ev.ofSome h)
  | cons e rest ih =>
    intro k r hr h
    obtain ⟨hk, hx, hr2⟩ := drop_cons (d := (Ty.dflt .str)) hr
    have hw := wrap_succ hl hk
    have ih2 : ∀ (r : Bool), P_spec_l3Rising_0_2 x1 rest (k + 1) = some r → Ev (fun n => L_spec_l3Rising_0_2 n x1 (IntKind.wrap .i64 ((k : Int) + 1))) r := by
      intro r h; rw [hw]; exact ih (k + 1) r hr2 h
    rw [P_spec_l3Rising_0_2] at h
    refine Ev.step ?_ (fun n => L_spec_l3Rising_0_2_eq n x1 (k : Int))
    rw [show decide ((k : Int) < (x1.length : Int)) = true from decide_eq_true (by omega), inB_nat2 hk, hx]
    exact Ev.pos rfl (Ev.ofBif h (fun h => (Ev.pos rfl (Ev.ofBind h fun y1 h => (Ev.ofBif h (fun h => (Ev.ofSome h)) (fun h => (ih2  _ h)))))) (fun h => (Ev.ofNone h)))
theorem S_spec_l3Rising (a0 : (List (List Int))) {r : Bool} (h : P_spec_l3Rising a0 = some r) : Ev (fun n => F_spec_l3Rising n a0) r := by
  rw [P_spec_l3Rising] at h
  refine Ev.of_eq ?_ (fun n => F_spec_l3Rising_eq n a0)
  exact (Ev.ofLen h fun hl h => S_spec_l3Rising_0_2 hl _ (1 : Nat) _ rfl h)
theorem hcs_spec_l3Rising : ∀ x ∈ cs_spec_l3Rising, CtrOk Tryz.prog x := (conOf_cons ok_spec_l1CmpText conOf_nil)
theorem ok_spec_l3Rising : CtrOk Tryz.prog (c_spec_l3Rising) := by
  refine ctr_of_run (c := c_spec_l3Rising) (by kernel_rfl) (by kernel_rfl : Tryz.prog.funcs[142]? = some Tryz.f142) (code := Tryz.f142.body.getD .skip) (by kernel_rfl) (by kernel_rfl) (by kernel_rfl) (A := A_spec_l3Rising) (I := In_spec_l3Rising) (hcs_spec_l3Rising) ?_
  rintro ⟨a0, u⟩ y hy
  exact (S_spec_l3Rising a0 hy).get

/-! ## spec.l11GoodTypes (78) -/
noncomputable def P_spec_l11GoodTypes_0_2 (x1 : (List (List Int))) (x5 : DPolSchema) : List (List Int) → Option Bool
  | [] =>
      Option.bind (P_spec_l3Rising x1) fun (y2 : Bool) =>
      some y2
  | e :: rest =>
      Option.bind (P_spec_l11ThingType x5 (e)) fun (y1 : (DThingType × Bool)) =>
      bif !(y1.2) then
        some false
      else
        P_spec_l11GoodTypes_0_2 x1 x5 rest
noncomputable def P_spec_l11GoodTypes (a0 : DPolSchema) (a1 : (List (List Int))) : Option Bool :=
  lenOk a1 (P_spec_l11GoodTypes_0_2 a1 a0 a1)
noncomputable def c_spec_l11GoodTypes : Ctr := ⟨78, [TyPolSchema, (.list .str)], [.bool], fun x => P_spec_l11GoodTypes x.1 x.2.1⟩
def A_spec_l11GoodTypes : List (List Nat × Ann) := [([0, 2], [.keep 0 1, .keep 0 2, .keep 0 9, .keep 0 10, .keep 0 11, .boxd 0 2 TyPolSchema])]
def In_spec_l11GoodTypes : List (List Nat × Nat) := []
noncomputable def cs_spec_l11GoodTypes : List Ctr := [c_spec_l11ThingType, c_spec_l3Rising]
noncomputable def F_spec_l11GoodTypes (n : Nat) (a0 : DPolSchema) (a1 : (List (List Int))) : Option Bool := run Tryz.prog A_spec_l11GoodTypes In_spec_l11GoodTypes (conOf cs_spec_l11GoodTypes) Tryz.f78 (Tryz.f78.body.getD .skip) (packT [.bool]) n (argsV [TyPolSchema, (.list .str)] (a0, a1, ()))
noncomputable abbrev L_spec_l11GoodTypes_0_2 (n : Nat) (x1 : (List (List Int))) (x2 : (List (List Int))) (x3 : Int) (x4 : Int) (x5 : DPolSchema) : Option Bool := lam Tryz.prog A_spec_l11GoodTypes In_spec_l11GoodTypes (conOf cs_spec_l11GoodTypes) Tryz.f78 (Tryz.f78.body.getD .skip) (packT [.bool]) n [0, 2] [.d (.list .str) x1, .ptr 0 2 0, .d (.list .str) x2, .d I64 x3, .d I64 x4, .agg (explode TyPolSchema x5)]
theorem F_spec_l11GoodTypes_eq (n : Nat) (a0 : DPolSchema) (a1 : (List (List Int))) : F_spec_l11GoodTypes n a0 a1 =
    L_spec_l11GoodTypes_0_2 n a1 a1 (a1.length : Int) 0 a0 := by kernel_rfl
theorem L_spec_l11GoodTypes_0_2_eq (n : Nat) (x1 : (List (List Int))) (x2 : (List (List Int))) (x3 : Int) (x4 : Int) (x5 : DPolSchema) : L_spec_l11GoodTypes_0_2 (n + 1) x1 x2 x3 x4 x5 =
    bif decide (x4 < x3) then
      bif inB x4 x2.length then
        Option.bind (P_spec_l11ThingType x5 (rd x2 x4 (Ty.dflt .str))) fun (y1 : (DThingType × Bool)) =>
        bif !(y1.2) then
          some false
        else
          L_spec_l11GoodTypes_0_2 n x1 x2 x3 (IntKind.wrap .i64 (x4 + 1)) x5
      else none
    else
      Option.bind (P_spec_l3Rising x1) fun (y2 : Bool) =>
      some y2 := by kernel_rfl
theorem S_spec_l11GoodTypes_0_2 {x1 : (List (List Int))} {x5 : DPolSchema} (hl : x1.length ≤ maxLen) : ∀ (rest : List (List Int)) (k : Nat) (r : Bool), rest = x1.drop k → P_spec_l11GoodTypes_0_2 x1 x5 rest = some r → Ev (fun n => L_spec_l11GoodTypes_0_2 n x1 x1 (x1.length : Int) (k : Int) x5) r := by
  intro rest
  induction rest with
  | nil =>
    intro k r hr h
    have hk := drop_nil hr
    rw [P_spec_l11GoodTypes_0_2] at h
    refine Ev.step ?_ (fun n => L_spec_l11GoodTypes_0_2_eq n x1 x1 (x1.length : Int) (k : Int) x5)
    rw [show decide ((k : Int) < (x1.length : Int)) = false from decide_eq_false (by omega)]
    exact Ev.neg rfl (Ev.ofBind h fun y2 h => (Ev.ofSome h))
  | cons e rest ih =>
    intro k r hr h
    obtain ⟨hk, hx, hr2⟩ := drop_cons (d := (Ty.dflt .str)) hr
    have hw := wrap_succ hl hk
    have ih2 : ∀ (r : Bool), P_spec_l11GoodTypes_0_2 x1 x5 rest = some r → Ev (fun n => L_spec_l11GoodTypes_0_2 n x1 x1 (x1.length : Int) (IntKind.wrap .i64 ((k : Int) + 1)) x5) r := by
      intro r h; rw [hw]; exact ih (k + 1) r hr2 h
    rw [P_spec_l11GoodTypes_0_2] at h
    refine Ev.step ?_ (fun n => L_spec_l11GoodTypes_0_2_eq n x1 x1 (x1.length : Int) (k : Int) x5)
    rw [show decide ((k : Int) < (x1.length : Int)) = true from decide_eq_true (by omega), inB_nat2 hk, hx]
    exact Ev.pos rfl (Ev.pos rfl (Ev.ofBind h fun y1 h => (Ev.ofBif h (fun h => (Ev.ofSome h)) (fun h => (ih2  _ h)))))
theorem S_spec_l11GoodTypes (a0 : DPolSchema) (a1 : (List (List Int))) {r : Bool} (h : P_spec_l11GoodTypes a0 a1 = some r) : Ev (fun n => F_spec_l11GoodTypes n a0 a1) r := by
  rw [P_spec_l11GoodTypes] at h
  refine Ev.of_eq ?_ (fun n => F_spec_l11GoodTypes_eq n a0 a1)
  exact (Ev.ofLen h fun hl h => S_spec_l11GoodTypes_0_2 hl _ (0 : Nat) _ rfl h)
theorem hcs_spec_l11GoodTypes : ∀ x ∈ cs_spec_l11GoodTypes, CtrOk Tryz.prog x := (conOf_cons ok_spec_l11ThingType (conOf_cons ok_spec_l3Rising conOf_nil))
theorem ok_spec_l11GoodTypes : CtrOk Tryz.prog (c_spec_l11GoodTypes) := by
  refine ctr_of_run (c := c_spec_l11GoodTypes) (by kernel_rfl) (by kernel_rfl : Tryz.prog.funcs[78]? = some Tryz.f78) (code := Tryz.f78.body.getD .skip) (by kernel_rfl) (by kernel_rfl) (by kernel_rfl) (A := A_spec_l11GoodTypes) (I := In_spec_l11GoodTypes) (hcs_spec_l11GoodTypes) ?_
  rintro ⟨a0, a1, u⟩ y hy
  exact (S_spec_l11GoodTypes a0 a1 hy).get

/-! ## spec.l11Head (166) -/
noncomputable def P_spec_l11Head (a0 : (List Int)) (a1 : (List Int)) : Option Bool :=
  bif decide ((a1.length : Int) < (a0.length : Int)) then
    bif decide ((0 : Int) ≤ (a1.length : Int)) && decide ((a1.length : Int) ≤ (a0.length : Int)) then
      some (decide (cut a0 0 (a1.length : Int) = a1))
    else none
  else
    some false
noncomputable def c_spec_l11Head : Ctr := ⟨166, [.str, .str], [.bool], fun x => P_spec_l11Head x.1 x.2.1⟩
def A_spec_l11Head : List (List Nat × Ann) := []
def In_spec_l11Head : List (List Nat × Nat) := []
noncomputable def cs_spec_l11Head : List Ctr := []
noncomputable def F_spec_l11Head (n : Nat) (a0 : (List Int)) (a1 : (List Int)) : Option Bool := run Tryz.prog A_spec_l11Head In_spec_l11Head (conOf cs_spec_l11Head) Tryz.f166 (Tryz.f166.body.getD .skip) (packT [.bool]) n (argsV [.str, .str] (a0, a1, ()))
theorem F_spec_l11Head_eq (n : Nat) (a0 : (List Int)) (a1 : (List Int)) : F_spec_l11Head n a0 a1 =
    bif decide ((a1.length : Int) < (a0.length : Int)) then
      bif decide ((0 : Int) ≤ (a1.length : Int)) && decide ((a1.length : Int) ≤ (a0.length : Int)) then
        some (decide (cut a0 0 (a1.length : Int) = a1))
      else none
    else
      some false := by kernel_rfl
theorem S_spec_l11Head (a0 : (List Int)) (a1 : (List Int)) {r : Bool} (h : P_spec_l11Head a0 a1 = some r) : Ev (fun n => F_spec_l11Head n a0 a1) r := by
  rw [P_spec_l11Head] at h
  refine Ev.of_eq ?_ (fun n => F_spec_l11Head_eq n a0 a1)
  exact (Ev.ofBif h (fun h => (Ev.ofBif h (fun h => (Ev.ofSome h)) (fun h => (Ev.ofNone h)))) (fun h => (Ev.ofSome h)))
theorem hcs_spec_l11Head : ∀ x ∈ cs_spec_l11Head, CtrOk Tryz.prog x := conOf_nil
theorem ok_spec_l11Head : CtrOk Tryz.prog (c_spec_l11Head) := by
  refine ctr_of_run (c := c_spec_l11Head) (by kernel_rfl) (by kernel_rfl : Tryz.prog.funcs[166]? = some Tryz.f166) (code := Tryz.f166.body.getD .skip) (by kernel_rfl) (by kernel_rfl) (by kernel_rfl) (A := A_spec_l11Head) (I := In_spec_l11Head) (hcs_spec_l11Head) ?_
  rintro ⟨a0, a1, u⟩ y hy
  exact (S_spec_l11Head a0 a1 hy).get

/-! ## spec.l3Has (42) -/
noncomputable def P_spec_l3Has_0_2 (x1 : (List Int)) : List (List Int) → Option Bool
  | [] =>
      some false
  | e :: rest =>
      bif decide (e = x1) then
        some true
      else
        P_spec_l3Has_0_2 x1 rest
noncomputable def P_spec_l3Has (a0 : (List (List Int))) (a1 : (List Int)) : Option Bool :=
  lenOk a0 (P_spec_l3Has_0_2 a1 a0)
noncomputable def c_spec_l3Has : Ctr := ⟨42, [(.list .str), .str], [.bool], fun x => P_spec_l3Has x.1 x.2.1⟩
def A_spec_l3Has : List (List Nat × Ann) := [([0, 2], [.keep 0 1, .keep 0 7, .keep 0 8, .keep 0 9])]
def In_spec_l3Has : List (List Nat × Nat) := []
noncomputable def cs_spec_l3Has : List Ctr := []
noncomputable def F_spec_l3Has (n : Nat) (a0 : (List (List Int))) (a1 : (List Int)) : Option Bool := run Tryz.prog A_spec_l3Has In_spec_l3Has (conOf cs_spec_l3Has) Tryz.f42 (Tryz.f42.body.getD .skip) (packT [.bool]) n (argsV [(.list .str), .str] (a0, a1, ()))
noncomputable abbrev L_spec_l3Has_0_2 (n : Nat) (x1 : (List Int)) (x2 : (List (List Int))) (x3 : Int) (x4 : Int) : Option Bool := lam Tryz.prog A_spec_l3Has In_spec_l3Has (conOf cs_spec_l3Has) Tryz.f42 (Tryz.f42.body.getD .skip) (packT [.bool]) n [0, 2] [.d .str x1, .d (.list .str) x2, .d I64 x3, .d I64 x4]
theorem F_spec_l3Has_eq (n : Nat) (a0 : (List (List Int))) (a1 : (List Int)) : F_spec_l3Has n a0 a1 =
    L_spec_l3Has_0_2 n a1 a0 (a0.length : Int) 0 := by kernel_rfl
theorem L_spec_l3Has_0_2_eq (n : Nat) (x1 : (List Int)) (x2 : (List (List Int))) (x3 : Int) (x4 : Int) : L_spec_l3Has_0_2 (n + 1) x1 x2 x3 x4 =
    bif decide (x4 < x3) then
      bif inB x4 x2.length then
        bif decide (rd x2 x4 (Ty.dflt .str) = x1) then
          some true
        else
          L_spec_l3Has_0_2 n x1 x2 x3 (IntKind.wrap .i64 (x4 + 1))
      else none
    else
      some false := by kernel_rfl
theorem S_spec_l3Has_0_2 {x1 : (List Int)} {x2 : (List (List Int))} (hl : x2.length ≤ maxLen) : ∀ (rest : List (List Int)) (k : Nat) (r : Bool), rest = x2.drop k → P_spec_l3Has_0_2 x1 rest = some r → Ev (fun n => L_spec_l3Has_0_2 n x1 x2 (x2.length : Int) (k : Int)) r := by
  intro rest
  induction rest with
  | nil =>
    intro k r hr h
    have hk := drop_nil hr
    rw [P_spec_l3Has_0_2] at h
    refine Ev.step ?_ (fun n => L_spec_l3Has_0_2_eq n x1 x2 (x2.length : Int) (k : Int))
    rw [show decide ((k : Int) < (x2.length : Int)) = false from decide_eq_false (by omega)]
    exact Ev.neg rfl (Ev.ofSome h)
  | cons e rest ih =>
    intro k r hr h
    obtain ⟨hk, hx, hr2⟩ := drop_cons (d := (Ty.dflt .str)) hr
    have hw := wrap_succ hl hk
    have ih2 : ∀ (r : Bool), P_spec_l3Has_0_2 x1 rest = some r → Ev (fun n => L_spec_l3Has_0_2 n x1 x2 (x2.length : Int) (IntKind.wrap .i64 ((k : Int) + 1))) r := by
      intro r h; rw [hw]; exact ih (k + 1) r hr2 h
    rw [P_spec_l3Has_0_2] at h
    refine Ev.step ?_ (fun n => L_spec_l3Has_0_2_eq n x1 x2 (x2.length : Int) (k : Int))
    rw [show decide ((k : Int) < (x2.length : Int)) = true from decide_eq_true (by omega), inB_nat2 hk, hx]
    exact Ev.pos rfl (Ev.pos rfl (Ev.ofBif h (fun h => (Ev.ofSome h)) (fun h => (ih2  _ h))))
theorem S_spec_l3Has (a0 : (List (List Int))) (a1 : (List Int)) {r : Bool} (h : P_spec_l3Has a0 a1 = some r) : Ev (fun n => F_spec_l3Has n a0 a1) r := by
  rw [P_spec_l3Has] at h
  refine Ev.of_eq ?_ (fun n => F_spec_l3Has_eq n a0 a1)
  exact (Ev.ofLen h fun hl h => S_spec_l3Has_0_2 hl _ (0 : Nat) _ rfl h)
theorem hcs_spec_l3Has : ∀ x ∈ cs_spec_l3Has, CtrOk Tryz.prog x := conOf_nil
theorem ok_spec_l3Has : CtrOk Tryz.prog (c_spec_l3Has) := by
  refine ctr_of_run (c := c_spec_l3Has) (by kernel_rfl) (by kernel_rfl : Tryz.prog.funcs[42]? = some Tryz.f42) (code := Tryz.f42.body.getD .skip) (by kernel_rfl) (by kernel_rfl) (by kernel_rfl) (A := A_spec_l3Has) (I := In_spec_l3Has) (hcs_spec_l3Has) ?_
  rintro ⟨a0, a1, u⟩ y hy
  exact (S_spec_l3Has a0 a1 hy).get

/-! ## spec.l11GoodKind (163) -/
noncomputable def P_spec_l11GoodKind_1_3 (x1 : (List Int)) (x2 : DPolSchema) : Option Bool :=
  Option.bind (P_spec_l11Head x1 ([114, 101, 102, 32] : List Int)) fun (y2 : Bool) =>
  bif y2 then
    bif true && decide ((4 : Int) ≤ (x1.length : Int)) then
      Option.bind (P_spec_l11ThingType x2 (cut x1 4 (x1.length : Int))) fun (y3 : (DThingType × Bool)) =>
      some y3.2
    else none
  else
    Option.bind (P_spec_l3Has ([([98, 111, 111, 108] : List Int), ([110, 117, 109] : List Int), ([116, 101, 120, 116] : List Int), ([100, 101, 99] : List Int), ([97, 100, 100, 114] : List Int), ([116, 105, 109, 101] : List Int)] : List (List Int)) x1) fun (y4 : Bool) =>
    some y4
noncomputable def P_spec_l11GoodKind (a0 : DPolSchema) (a1 : (List Int)) : Option Bool :=
  Option.bind (P_spec_l11Head a1 ([115, 101, 116, 32] : List Int)) fun (y1 : Bool) =>
  bif y1 then
    bif true && decide ((4 : Int) ≤ (a1.length : Int)) then
      P_spec_l11GoodKind_1_3 (cut a1 4 (a1.length : Int)) a0
    else none
  else
    P_spec_l11GoodKind_1_3 a1 a0
noncomputable def c_spec_l11GoodKind : Ctr := ⟨163, [TyPolSchema, .str], [.bool], fun x => P_spec_l11GoodKind x.1 x.2.1⟩
def A_spec_l11GoodKind : List (List Nat × Ann) := [([1, 3], [.keep 0 1, .keep 0 2, .boxd 0 2 TyPolSchema])]
def In_spec_l11GoodKind : List (List Nat × Nat) := []
noncomputable def cs_spec_l11GoodKind : List Ctr := [c_spec_l11Head, c_spec_l11ThingType, c_spec_l3Has]
noncomputable def F_spec_l11GoodKind (n : Nat) (a0 : DPolSchema) (a1 : (List Int)) : Option Bool := run Tryz.prog A_spec_l11GoodKind In_spec_l11GoodKind (conOf cs_spec_l11GoodKind) Tryz.f163 (Tryz.f163.body.getD .skip) (packT [.bool]) n (argsV [TyPolSchema, .str] (a0, a1, ()))
noncomputable abbrev L_spec_l11GoodKind_1_3 (n : Nat) (x1 : (List Int)) (x2 : DPolSchema) : Option Bool := lam Tryz.prog A_spec_l11GoodKind In_spec_l11GoodKind (conOf cs_spec_l11GoodKind) Tryz.f163 (Tryz.f163.body.getD .skip) (packT [.bool]) n [1, 3] [.d .str x1, .ptr 0 2 0, .agg (explode TyPolSchema x2)]
theorem F_spec_l11GoodKind_eq (n : Nat) (a0 : DPolSchema) (a1 : (List Int)) : F_spec_l11GoodKind n a0 a1 =
    Option.bind (P_spec_l11Head a1 ([115, 101, 116, 32] : List Int)) fun (y1 : Bool) =>
    bif y1 then
      bif true && decide ((4 : Int) ≤ (a1.length : Int)) then
        L_spec_l11GoodKind_1_3 n (cut a1 4 (a1.length : Int)) a0
      else none
    else
      L_spec_l11GoodKind_1_3 n a1 a0 := by kernel_rfl
theorem L_spec_l11GoodKind_1_3_eq (n : Nat) (x1 : (List Int)) (x2 : DPolSchema) : L_spec_l11GoodKind_1_3 (n + 1) x1 x2 =
    Option.bind (P_spec_l11Head x1 ([114, 101, 102, 32] : List Int)) fun (y2 : Bool) =>
    bif y2 then
      bif true && decide ((4 : Int) ≤ (x1.length : Int)) then
        Option.bind (P_spec_l11ThingType x2 (cut x1 4 (x1.length : Int))) fun (y3 : (DThingType × Bool)) =>
        some y3.2
      else none
    else
      Option.bind (P_spec_l3Has ([([98, 111, 111, 108] : List Int), ([110, 117, 109] : List Int), ([116, 101, 120, 116] : List Int), ([100, 101, 99] : List Int), ([97, 100, 100, 114] : List Int), ([116, 105, 109, 101] : List Int)] : List (List Int)) x1) fun (y4 : Bool) =>
      some y4 := by kernel_rfl
theorem S_spec_l11GoodKind_1_3 {x1 : (List Int)} {x2 : DPolSchema} {r : Bool} (h : P_spec_l11GoodKind_1_3 x1 x2 = some r) : Ev (fun n => L_spec_l11GoodKind_1_3 n x1 x2) r := by
  rw [P_spec_l11GoodKind_1_3] at h
  refine Ev.step ?_ (fun n => L_spec_l11GoodKind_1_3_eq n x1 x2)
  exact (Ev.ofBind h fun y2 h => (Ev.ofBif h (fun h => (Ev.ofBif h (fun h => (Ev.ofBind h fun y3 h => (Ev.ofSome h))) (fun h => (Ev.ofNone h)))) (fun h => (Ev.ofBind h fun y4 h => (Ev.ofSome h)))))
theorem S_spec_l11GoodKind (a0 : DPolSchema) (a1 : (List Int)) {r : Bool} (h : P_spec_l11GoodKind a0 a1 = some r) : Ev (fun n => F_spec_l11GoodKind n a0 a1) r := by
  rw [P_spec_l11GoodKind] at h
  refine Ev.of_eq ?_ (fun n => F_spec_l11GoodKind_eq n a0 a1)
  exact (Ev.ofBind h fun y1 h => (Ev.ofBif h (fun h => (Ev.ofBif h (fun h => (S_spec_l11GoodKind_1_3 h)) (fun h => (Ev.ofNone h)))) (fun h => (S_spec_l11GoodKind_1_3 h))))
theorem hcs_spec_l11GoodKind : ∀ x ∈ cs_spec_l11GoodKind, CtrOk Tryz.prog x := (conOf_cons ok_spec_l11Head (conOf_cons ok_spec_l11ThingType (conOf_cons ok_spec_l3Has conOf_nil)))
theorem ok_spec_l11GoodKind : CtrOk Tryz.prog (c_spec_l11GoodKind) := by
  refine ctr_of_run (c := c_spec_l11GoodKind) (by kernel_rfl) (by kernel_rfl : Tryz.prog.funcs[163]? = some Tryz.f163) (code := Tryz.f163.body.getD .skip) (by kernel_rfl) (by kernel_rfl) (by kernel_rfl) (A := A_spec_l11GoodKind) (I := In_spec_l11GoodKind) (hcs_spec_l11GoodKind) ?_
  rintro ⟨a0, a1, u⟩ y hy
  exact (S_spec_l11GoodKind a0 a1 hy).get

/-! ## spec.l11GoodAttrs (87) -/
noncomputable def P_spec_l11GoodAttrs_0_2 (x1 : (List DAttrKind)) (x5 : DPolSchema) : List DAttrKind → Nat → Option Bool
  | [], k =>
      some (decide ((x1.length : Int) ≤ 20))
  | e :: rest, k =>
      Option.bind (P_spec_GoodName ((e).1)) fun (y1 : Bool) =>
      bif !(y1) then
        some false
      else
        bif decide ((0 : Int) < (k : Int)) then
          bif inB (IntKind.wrap .i64 ((k : Int) - 1)) x1.length then
            Option.bind (P_spec_l1CmpText ((rd x1 (IntKind.wrap .i64 ((k : Int) - 1)) (Ty.dflt TyAttrKind)).1) ((e).1)) fun (y2 : Int) =>
            bif decide ((0 : Int) ≤ y2) then
              some false
            else
              Option.bind (P_spec_l11GoodKind x5 (((e).2).1)) fun (y3 : Bool) =>
              bif !(y3) then
                some false
              else
                P_spec_l11GoodAttrs_0_2 x1 x5 rest (k + 1)
          else none
        else
          Option.bind (P_spec_l11GoodKind x5 (((e).2).1)) fun (y4 : Bool) =>
          bif !(y4) then
            some false
          else
            P_spec_l11GoodAttrs_0_2 x1 x5 rest (k + 1)
noncomputable def P_spec_l11GoodAttrs (a0 : DPolSchema) (a1 : (List DAttrKind)) : Option Bool :=
  lenOk a1 (P_spec_l11GoodAttrs_0_2 a1 a0 a1 0)
noncomputable def c_spec_l11GoodAttrs : Ctr := ⟨87, [TyPolSchema, (.list TyAttrKind)], [.bool], fun x => P_spec_l11GoodAttrs x.1 x.2.1⟩
def A_spec_l11GoodAttrs : List (List Nat × Ann) := [([0, 2], [.keep 0 1, .keep 0 2, .keep 0 7, .keep 0 8, .keep 0 9, .boxd 0 2 TyPolSchema])]
def In_spec_l11GoodAttrs : List (List Nat × Nat) := []
noncomputable def cs_spec_l11GoodAttrs : List Ctr := [c_spec_GoodName, c_spec_l1CmpText, c_spec_l11GoodKind]
noncomputable def F_spec_l11GoodAttrs (n : Nat) (a0 : DPolSchema) (a1 : (List DAttrKind)) : Option Bool := run Tryz.prog A_spec_l11GoodAttrs In_spec_l11GoodAttrs (conOf cs_spec_l11GoodAttrs) Tryz.f87 (Tryz.f87.body.getD .skip) (packT [.bool]) n (argsV [TyPolSchema, (.list TyAttrKind)] (a0, a1, ()))
noncomputable abbrev L_spec_l11GoodAttrs_0_2 (n : Nat) (x1 : (List DAttrKind)) (x2 : (List DAttrKind)) (x3 : Int) (x4 : Int) (x5 : DPolSchema) : Option Bool := lam Tryz.prog A_spec_l11GoodAttrs In_spec_l11GoodAttrs (conOf cs_spec_l11GoodAttrs) Tryz.f87 (Tryz.f87.body.getD .skip) (packT [.bool]) n [0, 2] [.d (.list TyAttrKind) x1, .ptr 0 2 0, .d (.list TyAttrKind) x2, .d I64 x3, .d I64 x4, .agg (explode TyPolSchema x5)]
theorem F_spec_l11GoodAttrs_eq (n : Nat) (a0 : DPolSchema) (a1 : (List DAttrKind)) : F_spec_l11GoodAttrs n a0 a1 =
    L_spec_l11GoodAttrs_0_2 n a1 a1 (a1.length : Int) 0 a0 := by kernel_rfl
theorem L_spec_l11GoodAttrs_0_2_eq (n : Nat) (x1 : (List DAttrKind)) (x2 : (List DAttrKind)) (x3 : Int) (x4 : Int) (x5 : DPolSchema) : L_spec_l11GoodAttrs_0_2 (n + 1) x1 x2 x3 x4 x5 =
    bif decide (x4 < x3) then
      bif inB x4 x2.length then
        Option.bind (P_spec_GoodName ((rd x2 x4 (Ty.dflt TyAttrKind)).1)) fun (y1 : Bool) =>
        bif !(y1) then
          some false
        else
          bif decide ((0 : Int) < x4) then
            bif inB (IntKind.wrap .i64 (x4 - 1)) x1.length then
              Option.bind (P_spec_l1CmpText ((rd x1 (IntKind.wrap .i64 (x4 - 1)) (Ty.dflt TyAttrKind)).1) ((rd x2 x4 (Ty.dflt TyAttrKind)).1)) fun (y2 : Int) =>
              bif decide ((0 : Int) ≤ y2) then
                some false
              else
                Option.bind (P_spec_l11GoodKind x5 (((rd x2 x4 (Ty.dflt TyAttrKind)).2).1)) fun (y3 : Bool) =>
                bif !(y3) then
                  some false
                else
                  L_spec_l11GoodAttrs_0_2 n x1 x2 x3 (IntKind.wrap .i64 (x4 + 1)) x5
            else none
          else
            Option.bind (P_spec_l11GoodKind x5 (((rd x2 x4 (Ty.dflt TyAttrKind)).2).1)) fun (y4 : Bool) =>
            bif !(y4) then
              some false
            else
              L_spec_l11GoodAttrs_0_2 n x1 x2 x3 (IntKind.wrap .i64 (x4 + 1)) x5
      else none
    else
      some (decide ((x1.length : Int) ≤ 20)) := by kernel_rfl
theorem S_spec_l11GoodAttrs_0_2 {x1 : (List DAttrKind)} {x5 : DPolSchema} (hl : x1.length ≤ maxLen) : ∀ (rest : List DAttrKind) (k : Nat) (r : Bool), rest = x1.drop k → P_spec_l11GoodAttrs_0_2 x1 x5 rest k = some r → Ev (fun n => L_spec_l11GoodAttrs_0_2 n x1 x1 (x1.length : Int) (k : Int) x5) r := by
  intro rest
  induction rest with
  | nil =>
    intro k r hr h
    have hk := drop_nil hr
    rw [P_spec_l11GoodAttrs_0_2] at h
    refine Ev.step ?_ (fun n => L_spec_l11GoodAttrs_0_2_eq n x1 x1 (x1.length : Int) (k : Int) x5)
    rw [show decide ((k : Int) < (x1.length : Int)) = false from decide_eq_false (by omega)]
    exact Ev.neg rfl (Ev.ofSome h)
  | cons e rest ih =>
    intro k r hr h
    obtain ⟨hk, hx, hr2⟩ := drop_cons (d := (Ty.dflt TyAttrKind)) hr
    have hw := wrap_succ hl hk
    have ih2 : ∀ (r : Bool), P_spec_l11GoodAttrs_0_2 x1 x5 rest (k + 1) = some r → Ev (fun n => L_spec_l11GoodAttrs_0_2 n x1 x1 (x1.length : Int) (IntKind.wrap .i64 ((k : Int) + 1)) x5) r := by
      intro r h; rw [hw]; exact ih (k + 1) r hr2 h
    rw [P_spec_l11GoodAttrs_0_2] at h
    refine Ev.step ?_ (fun n => L_spec_l11GoodAttrs_0_2_eq n x1 x1 (x1.length : Int) (k : Int) x5)
    rw [show decide ((k : Int) < (x1.length : Int)) = true from decide_eq_true (by omega), inB_nat2 hk, hx]
    exact Ev.pos rfl (Ev.pos rfl (Ev.ofBind h fun y1 h => (Ev.ofBif h (fun h => (Ev.ofSome h)) (fun h => (Ev.ofBif h (fun h => (Ev.ofBif h (fun h => (Ev.ofBind h fun y2 h => (Ev.ofBif h (fun h => (Ev.ofSome h)) (fun h => (Ev.ofBind h fun y3 h => (Ev.ofBif h (fun h => (Ev.ofSome h)) (fun h => (ih2  _ h)))))))) (fun h => (Ev.ofNone h)))) (fun h => (Ev.ofBind h fun y4 h => (Ev.ofBif h (fun h => (Ev.ofSome h)) (fun h => (ih2  _ h))))))))))
theorem S_spec_l11GoodAttrs (a0 : DPolSchema) (a1 : (List DAttrKind)) {r : Bool} (h : P_spec_l11GoodAttrs a0 a1 = some r) : Ev (fun n => F_spec_l11GoodAttrs n a0 a1) r := by
  rw [P_spec_l11GoodAttrs] at h
  refine Ev.of_eq ?_ (fun n => F_spec_l11GoodAttrs_eq n a0 a1)
  exact (Ev.ofLen h fun hl h => S_spec_l11GoodAttrs_0_2 hl _ (0 : Nat) _ rfl h)
theorem hcs_spec_l11GoodAttrs : ∀ x ∈ cs_spec_l11GoodAttrs, CtrOk Tryz.prog x := (conOf_cons ok_spec_GoodName (conOf_cons ok_spec_l1CmpText (conOf_cons ok_spec_l11GoodKind conOf_nil)))
theorem ok_spec_l11GoodAttrs : CtrOk Tryz.prog (c_spec_l11GoodAttrs) := by
  refine ctr_of_run (c := c_spec_l11GoodAttrs) (by kernel_rfl) (by kernel_rfl : Tryz.prog.funcs[87]? = some Tryz.f87) (code := Tryz.f87.body.getD .skip) (by kernel_rfl) (by kernel_rfl) (by kernel_rfl) (A := A_spec_l11GoodAttrs) (I := In_spec_l11GoodAttrs) (hcs_spec_l11GoodAttrs) ?_
  rintro ⟨a0, a1, u⟩ y hy
  exact (S_spec_l11GoodAttrs a0 a1 hy).get

/-! ## spec.l7Id (88) -/
noncomputable def P_spec_l7Id_0_2 (x1 : (List Int)) : List Int → Option Bool
  | [] =>
      bif decide ((1 : Int) ≤ (x1.length : Int)) then
        some (decide ((x1.length : Int) ≤ 40))
      else
        some false
  | e :: rest =>
      bif !(T_spec_l1Letter (e)) then
        bif !(T_spec_l1Digit (e)) then
          bif !decide (e = 95) then
            bif !decide (e = 45) then
              bif !decide (e = 46) then
                some false
              else
                P_spec_l7Id_0_2 x1 rest
            else
              P_spec_l7Id_0_2 x1 rest
          else
            P_spec_l7Id_0_2 x1 rest
        else
          P_spec_l7Id_0_2 x1 rest
      else
        P_spec_l7Id_0_2 x1 rest
noncomputable def P_spec_l7Id (a0 : (List Int)) : Option Bool :=
  lenOk a0 (P_spec_l7Id_0_2 a0 a0)
noncomputable def c_spec_l7Id : Ctr := ⟨88, [.str], [.bool], fun x => P_spec_l7Id x.1⟩
def A_spec_l7Id : List (List Nat × Ann) := [([0, 2], [.keep 0 0, .keep 0 3])]
def In_spec_l7Id : List (List Nat × Nat) := []
noncomputable def cs_spec_l7Id : List Ctr := [c_spec_l1Letter, c_spec_l1Digit]
noncomputable def F_spec_l7Id (n : Nat) (a0 : (List Int)) : Option Bool := run Tryz.prog A_spec_l7Id In_spec_l7Id (conOf cs_spec_l7Id) Tryz.f88 (Tryz.f88.body.getD .skip) (packT [.bool]) n (argsV [.str] (a0, ()))
noncomputable abbrev L_spec_l7Id_0_2 (n : Nat) (x1 : (List Int)) (x2 : Int) : Option Bool := lam Tryz.prog A_spec_l7Id In_spec_l7Id (conOf cs_spec_l7Id) Tryz.f88 (Tryz.f88.body.getD .skip) (packT [.bool]) n [0, 2] [.d .str x1, .d I64 x2]
theorem F_spec_l7Id_eq (n : Nat) (a0 : (List Int)) : F_spec_l7Id n a0 =
    L_spec_l7Id_0_2 n a0 0 := by kernel_rfl
theorem L_spec_l7Id_0_2_eq (n : Nat) (x1 : (List Int)) (x2 : Int) : L_spec_l7Id_0_2 (n + 1) x1 x2 =
    bif decide (x2 < (x1.length : Int)) then
      bif inB x2 x1.length then
        bif !(T_spec_l1Letter (rd x1 x2 0)) then
          bif inB x2 x1.length then
            bif !(T_spec_l1Digit (rd x1 x2 0)) then
              bif inB x2 x1.length then
                bif !decide (rd x1 x2 0 = 95) then
                  bif inB x2 x1.length then
                    bif !decide (rd x1 x2 0 = 45) then
                      bif inB x2 x1.length then
                        bif !decide (rd x1 x2 0 = 46) then
                          some false
                        else
                          L_spec_l7Id_0_2 n x1 (IntKind.wrap .i64 (x2 + 1))
                      else none
                    else
                      L_spec_l7Id_0_2 n x1 (IntKind.wrap .i64 (x2 + 1))
                  else none
                else
                  L_spec_l7Id_0_2 n x1 (IntKind.wrap .i64 (x2 + 1))
              else none
            else
              L_spec_l7Id_0_2 n x1 (IntKind.wrap .i64 (x2 + 1))
          else none
        else
          L_spec_l7Id_0_2 n x1 (IntKind.wrap .i64 (x2 + 1))
      else none
    else
      bif decide ((1 : Int) ≤ (x1.length : Int)) then
        some (decide ((x1.length : Int) ≤ 40))
      else
        some false := by kernel_rfl
theorem S_spec_l7Id_0_2 {x1 : (List Int)} (hl : x1.length ≤ maxLen) : ∀ (rest : List Int) (k : Nat) (r : Bool), rest = x1.drop k → P_spec_l7Id_0_2 x1 rest = some r → Ev (fun n => L_spec_l7Id_0_2 n x1 (k : Int)) r := by
  intro rest
  induction rest with
  | nil =>
    intro k r hr h
    have hk := drop_nil hr
    rw [P_spec_l7Id_0_2] at h
    refine Ev.step ?_ (fun n => L_spec_l7Id_0_2_eq n x1 (k : Int))
    rw [show decide ((k : Int) < (x1.length : Int)) = false from decide_eq_false (by omega)]
    exact Ev.neg rfl (Ev.ofBif h (fun h => (Ev.ofSome h)) (fun h => (Ev.ofSome h)))
  | cons e rest ih =>
    intro k r hr h
    obtain ⟨hk, hx, hr2⟩ := drop_cons (d := 0) hr
    have hw := wrap_succ hl hk
    have ih2 : ∀ (r : Bool), P_spec_l7Id_0_2 x1 rest = some r → Ev (fun n => L_spec_l7Id_0_2 n x1 (IntKind.wrap .i64 ((k : Int) + 1))) r := by
      intro r h; rw [hw]; exact ih (k + 1) r hr2 h
    rw [P_spec_l7Id_0_2] at h
    refine Ev.step ?_ (fun n => L_spec_l7Id_0_2_eq n x1 (k : Int))
    rw [show decide ((k : Int) < (x1.length : Int)) = true from decide_eq_true (by omega), inB_nat2 hk, hx]
    exact Ev.pos rfl (Ev.pos rfl (Ev.ofBif h (fun h => (Ev.pos rfl (Ev.ofBif h (fun h => (Ev.pos rfl (Ev.ofBif h (fun h => (Ev.pos rfl (Ev.ofBif h (fun h => (Ev.pos rfl (Ev.ofBif h (fun h => (Ev.ofSome h)) (fun h => (ih2  _ h))))) (fun h => (ih2  _ h))))) (fun h => (ih2  _ h))))) (fun h => (ih2  _ h))))) (fun h => (ih2  _ h))))
theorem S_spec_l7Id (a0 : (List Int)) {r : Bool} (h : P_spec_l7Id a0 = some r) : Ev (fun n => F_spec_l7Id n a0) r := by
  rw [P_spec_l7Id] at h
  refine Ev.of_eq ?_ (fun n => F_spec_l7Id_eq n a0)
  exact (Ev.ofLen h fun hl h => S_spec_l7Id_0_2 hl _ (0 : Nat) _ rfl h)
theorem hcs_spec_l7Id : ∀ x ∈ cs_spec_l7Id, CtrOk Tryz.prog x := (conOf_cons ok_spec_l1Letter (conOf_cons ok_spec_l1Digit conOf_nil))
theorem ok_spec_l7Id : CtrOk Tryz.prog (c_spec_l7Id) := by
  refine ctr_of_run (c := c_spec_l7Id) (by kernel_rfl) (by kernel_rfl : Tryz.prog.funcs[88]? = some Tryz.f88) (code := Tryz.f88.body.getD .skip) (by kernel_rfl) (by kernel_rfl) (by kernel_rfl) (A := A_spec_l7Id) (I := In_spec_l7Id) (hcs_spec_l7Id) ?_
  rintro ⟨a0, u⟩ y hy
  exact (S_spec_l7Id a0 hy).get

/-! ## spec.GoodPolSchema (36) -/
noncomputable def P_spec_GoodPolSchema_0_10 (x4 : DPolSchema) : List DActionType → Nat → Option Bool
  | [], k =>
      some true
  | e :: rest, k =>
      Option.bind (P_spec_l7Id ((e).1)) fun (y7 : Bool) =>
      bif !(y7) then
        some false
      else
        bif decide ((0 : Int) < (k : Int)) then
          bif inB (IntKind.wrap .i64 ((k : Int) - 1)) x4.2.length then
            Option.bind (P_spec_l1CmpText ((rd x4.2 (IntKind.wrap .i64 ((k : Int) - 1)) (Ty.dflt TyActionType)).1) ((e).1)) fun (y8 : Int) =>
            bif decide ((0 : Int) ≤ y8) then
              some false
            else
              bif decide (((((e).2).1).length : Int) < 1) then
                some false
              else
                bif decide ((((((e).2).2).1).length : Int) < 1) then
                  some false
                else
                  Option.bind (P_spec_l11GoodTypes x4 (((e).2).1)) fun (y9 : Bool) =>
                  bif !(y9) then
                    some false
                  else
                    Option.bind (P_spec_l11GoodTypes x4 ((((e).2).2).1)) fun (y10 : Bool) =>
                    bif !(y10) then
                      some false
                    else
                      Option.bind (P_spec_l11GoodAttrs x4 ((((e).2).2).2)) fun (y11 : Bool) =>
                      bif !(y11) then
                        some false
                      else
                        P_spec_GoodPolSchema_0_10 x4 rest (k + 1)
          else none
        else
          bif decide (((((e).2).1).length : Int) < 1) then
            some false
          else
            bif decide ((((((e).2).2).1).length : Int) < 1) then
              some false
            else
              Option.bind (P_spec_l11GoodTypes x4 (((e).2).1)) fun (y12 : Bool) =>
              bif !(y12) then
                some false
              else
                Option.bind (P_spec_l11GoodTypes x4 ((((e).2).2).1)) fun (y13 : Bool) =>
                bif !(y13) then
                  some false
                else
                  Option.bind (P_spec_l11GoodAttrs x4 ((((e).2).2).2)) fun (y14 : Bool) =>
                  bif !(y14) then
                    some false
                  else
                    P_spec_GoodPolSchema_0_10 x4 rest (k + 1)
noncomputable def P_spec_GoodPolSchema_0_4 (x4 : DPolSchema) : List DThingType → Nat → Option Bool
  | [], k =>
      lenOk x4.2 (P_spec_GoodPolSchema_0_10 x4 x4.2 0)
  | e :: rest, k =>
      Option.bind (P_spec_GoodName ((e).1)) fun (y1 : Bool) =>
      bif !(y1) then
        some false
      else
        bif decide ((e).1 = ([65, 99, 116, 105, 111, 110] : List Int)) then
          some false
        else
          bif decide ((0 : Int) < (k : Int)) then
            bif inB (IntKind.wrap .i64 ((k : Int) - 1)) x4.1.length then
              Option.bind (P_spec_l1CmpText ((rd x4.1 (IntKind.wrap .i64 ((k : Int) - 1)) (Ty.dflt TyThingType)).1) ((e).1)) fun (y2 : Int) =>
              bif decide ((0 : Int) ≤ y2) then
                some false
              else
                Option.bind (P_spec_l11GoodTypes x4 (((e).2).1)) fun (y3 : Bool) =>
                bif !(y3) then
                  some false
                else
                  Option.bind (P_spec_l11GoodAttrs x4 (((e).2).2)) fun (y4 : Bool) =>
                  bif !(y4) then
                    some false
                  else
                    P_spec_GoodPolSchema_0_4 x4 rest (k + 1)
            else none
          else
            Option.bind (P_spec_l11GoodTypes x4 (((e).2).1)) fun (y5 : Bool) =>
            bif !(y5) then
              some false
            else
              Option.bind (P_spec_l11GoodAttrs x4 (((e).2).2)) fun (y6 : Bool) =>
              bif !(y6) then
                some false
              else
                P_spec_GoodPolSchema_0_4 x4 rest (k + 1)
noncomputable def P_spec_GoodPolSchema (a0 : DPolSchema) : Option Bool :=
  bif decide ((20 : Int) < (a0.1.length : Int)) then
    some false
  else
    bif decide ((20 : Int) < (a0.2.length : Int)) then
      some false
    else
      lenOk a0.1 (P_spec_GoodPolSchema_0_4 a0 a0.1 0)
noncomputable def c_spec_GoodPolSchema : Ctr := ⟨36, [TyPolSchema], [.bool], fun x => P_spec_GoodPolSchema x.1⟩
def A_spec_GoodPolSchema : List (List Nat × Ann) := [([0, 4], [.keep 0 1, .keep 0 18, .keep 0 19, .keep 0 20, .boxd 0 1 TyPolSchema]), ([0, 10], [.keep 0 1, .keep 0 67, .keep 0 68, .keep 0 69, .boxd 0 1 TyPolSchema])]
def In_spec_GoodPolSchema : List (List Nat × Nat) := []
noncomputable def cs_spec_GoodPolSchema : List Ctr := [c_spec_GoodName, c_spec_l1CmpText, c_spec_l11GoodTypes, c_spec_l11GoodAttrs, c_spec_l7Id]
noncomputable def F_spec_GoodPolSchema (n : Nat) (a0 : DPolSchema) : Option Bool := run Tryz.prog A_spec_GoodPolSchema In_spec_GoodPolSchema (conOf cs_spec_GoodPolSchema) Tryz.f36 (Tryz.f36.body.getD .skip) (packT [.bool]) n (argsV [TyPolSchema] (a0, ()))
noncomputable abbrev L_spec_GoodPolSchema_0_4 (n : Nat) (x1 : (List DThingType)) (x2 : Int) (x3 : Int) (x4 : DPolSchema) : Option Bool := lam Tryz.prog A_spec_GoodPolSchema In_spec_GoodPolSchema (conOf cs_spec_GoodPolSchema) Tryz.f36 (Tryz.f36.body.getD .skip) (packT [.bool]) n [0, 4] [.ptr 0 1 0, .d (.list TyThingType) x1, .d I64 x2, .d I64 x3, .agg (explode TyPolSchema x4)]
noncomputable abbrev L_spec_GoodPolSchema_0_10 (n : Nat) (x1 : (List DActionType)) (x2 : Int) (x3 : Int) (x4 : DPolSchema) : Option Bool := lam Tryz.prog A_spec_GoodPolSchema In_spec_GoodPolSchema (conOf cs_spec_GoodPolSchema) Tryz.f36 (Tryz.f36.body.getD .skip) (packT [.bool]) n [0, 10] [.ptr 0 1 0, .d (.list TyActionType) x1, .d I64 x2, .d I64 x3, .agg (explode TyPolSchema x4)]
theorem F_spec_GoodPolSchema_eq (n : Nat) (a0 : DPolSchema) : F_spec_GoodPolSchema n a0 =
    bif decide ((20 : Int) < (a0.1.length : Int)) then
      some false
    else
      bif decide ((20 : Int) < (a0.2.length : Int)) then
        some false
      else
        L_spec_GoodPolSchema_0_4 n a0.1 (a0.1.length : Int) 0 a0 := by kernel_rfl
theorem L_spec_GoodPolSchema_0_4_eq (n : Nat) (x1 : (List DThingType)) (x2 : Int) (x3 : Int) (x4 : DPolSchema) : L_spec_GoodPolSchema_0_4 (n + 1) x1 x2 x3 x4 =
    bif decide (x3 < x2) then
      bif inB x3 x1.length then
        Option.bind (P_spec_GoodName ((rd x1 x3 (Ty.dflt TyThingType)).1)) fun (y1 : Bool) =>
        bif !(y1) then
          some false
        else
          bif decide ((rd x1 x3 (Ty.dflt TyThingType)).1 = ([65, 99, 116, 105, 111, 110] : List Int)) then
            some false
          else
            bif decide ((0 : Int) < x3) then
              bif inB (IntKind.wrap .i64 (x3 - 1)) x4.1.length then
                Option.bind (P_spec_l1CmpText ((rd x4.1 (IntKind.wrap .i64 (x3 - 1)) (Ty.dflt TyThingType)).1) ((rd x1 x3 (Ty.dflt TyThingType)).1)) fun (y2 : Int) =>
                bif decide ((0 : Int) ≤ y2) then
                  some false
                else
                  Option.bind (P_spec_l11GoodTypes x4 (((rd x1 x3 (Ty.dflt TyThingType)).2).1)) fun (y3 : Bool) =>
                  bif !(y3) then
                    some false
                  else
                    Option.bind (P_spec_l11GoodAttrs x4 (((rd x1 x3 (Ty.dflt TyThingType)).2).2)) fun (y4 : Bool) =>
                    bif !(y4) then
                      some false
                    else
                      L_spec_GoodPolSchema_0_4 n x1 x2 (IntKind.wrap .i64 (x3 + 1)) x4
              else none
            else
              Option.bind (P_spec_l11GoodTypes x4 (((rd x1 x3 (Ty.dflt TyThingType)).2).1)) fun (y5 : Bool) =>
              bif !(y5) then
                some false
              else
                Option.bind (P_spec_l11GoodAttrs x4 (((rd x1 x3 (Ty.dflt TyThingType)).2).2)) fun (y6 : Bool) =>
                bif !(y6) then
                  some false
                else
                  L_spec_GoodPolSchema_0_4 n x1 x2 (IntKind.wrap .i64 (x3 + 1)) x4
      else none
    else
      L_spec_GoodPolSchema_0_10 n x4.2 (x4.2.length : Int) 0 x4 := by kernel_rfl
theorem L_spec_GoodPolSchema_0_10_eq (n : Nat) (x1 : (List DActionType)) (x2 : Int) (x3 : Int) (x4 : DPolSchema) : L_spec_GoodPolSchema_0_10 (n + 1) x1 x2 x3 x4 =
    bif decide (x3 < x2) then
      bif inB x3 x1.length then
        Option.bind (P_spec_l7Id ((rd x1 x3 (Ty.dflt TyActionType)).1)) fun (y7 : Bool) =>
        bif !(y7) then
          some false
        else
          bif decide ((0 : Int) < x3) then
            bif inB (IntKind.wrap .i64 (x3 - 1)) x4.2.length then
              Option.bind (P_spec_l1CmpText ((rd x4.2 (IntKind.wrap .i64 (x3 - 1)) (Ty.dflt TyActionType)).1) ((rd x1 x3 (Ty.dflt TyActionType)).1)) fun (y8 : Int) =>
              bif decide ((0 : Int) ≤ y8) then
                some false
              else
                bif decide (((((rd x1 x3 (Ty.dflt TyActionType)).2).1).length : Int) < 1) then
                  some false
                else
                  bif decide ((((((rd x1 x3 (Ty.dflt TyActionType)).2).2).1).length : Int) < 1) then
                    some false
                  else
                    Option.bind (P_spec_l11GoodTypes x4 (((rd x1 x3 (Ty.dflt TyActionType)).2).1)) fun (y9 : Bool) =>
                    bif !(y9) then
                      some false
                    else
                      Option.bind (P_spec_l11GoodTypes x4 ((((rd x1 x3 (Ty.dflt TyActionType)).2).2).1)) fun (y10 : Bool) =>
                      bif !(y10) then
                        some false
                      else
                        Option.bind (P_spec_l11GoodAttrs x4 ((((rd x1 x3 (Ty.dflt TyActionType)).2).2).2)) fun (y11 : Bool) =>
                        bif !(y11) then
                          some false
                        else
                          L_spec_GoodPolSchema_0_10 n x1 x2 (IntKind.wrap .i64 (x3 + 1)) x4
            else none
          else
            bif decide (((((rd x1 x3 (Ty.dflt TyActionType)).2).1).length : Int) < 1) then
              some false
            else
              bif decide ((((((rd x1 x3 (Ty.dflt TyActionType)).2).2).1).length : Int) < 1) then
                some false
              else
                Option.bind (P_spec_l11GoodTypes x4 (((rd x1 x3 (Ty.dflt TyActionType)).2).1)) fun (y12 : Bool) =>
                bif !(y12) then
                  some false
                else
                  Option.bind (P_spec_l11GoodTypes x4 ((((rd x1 x3 (Ty.dflt TyActionType)).2).2).1)) fun (y13 : Bool) =>
                  bif !(y13) then
                    some false
                  else
                    Option.bind (P_spec_l11GoodAttrs x4 ((((rd x1 x3 (Ty.dflt TyActionType)).2).2).2)) fun (y14 : Bool) =>
                    bif !(y14) then
                      some false
                    else
                      L_spec_GoodPolSchema_0_10 n x1 x2 (IntKind.wrap .i64 (x3 + 1)) x4
      else none
    else
      some true := by kernel_rfl
theorem S_spec_GoodPolSchema_0_10 {x1 : (List DActionType)} {x4 : DPolSchema} (hl : x1.length ≤ maxLen) : ∀ (rest : List DActionType) (k : Nat) (r : Bool), rest = x1.drop k → P_spec_GoodPolSchema_0_10 x4 rest k = some r → Ev (fun n => L_spec_GoodPolSchema_0_10 n x1 (x1.length : Int) (k : Int) x4) r := by
  intro rest
  induction rest with
  | nil =>
    intro k r hr h
    have hk := drop_nil hr
    rw [P_spec_GoodPolSchema_0_10] at h
    refine Ev.step ?_ (fun n => L_spec_GoodPolSchema_0_10_eq n x1 (x1.length : Int) (k : Int) x4)
    rw [show decide ((k : Int) < (x1.length : Int)) = false from decide_eq_false (by omega)]
    exact Ev.neg rfl (Ev.ofSome h)
  | cons e rest ih =>
    intro k r hr h
    obtain ⟨hk, hx, hr2⟩ := drop_cons (d := (Ty.dflt TyActionType)) hr
    have hw := wrap_succ hl hk
    have ih2 : ∀ (r : Bool), P_spec_GoodPolSchema_0_10 x4 rest (k + 1) = some r → Ev (fun n => L_spec_GoodPolSchema_0_10 n x1 (x1.length : Int) (IntKind.wrap .i64 ((k : Int) + 1)) x4) r := by
      intro r h; rw [hw]; exact ih (k + 1) r hr2 h
    rw [P_spec_GoodPolSchema_0_10] at h
    refine Ev.step ?_ (fun n => L_spec_GoodPolSchema_0_10_eq n x1 (x1.length : Int) (k : Int) x4)
    rw [show decide ((k : Int) < (x1.length : Int)) = true from decide_eq_true (by omega), inB_nat2 hk, hx]
    exact Ev.pos rfl (Ev.pos rfl (Ev.ofBind h fun y7 h => (Ev.ofBif h (fun h => (Ev.ofSome h)) (fun h => (Ev.ofBif h (fun h => (Ev.ofBif h (fun h => (Ev.ofBind h fun y8 h => (Ev.ofBif h (fun h => (Ev.ofSome h)) (fun h => (Ev.ofBif h (fun h => (Ev.ofSome h)) (fun h => (Ev.ofBif h (fun h => (Ev.ofSome h)) (fun h => (Ev.ofBind h fun y9 h => (Ev.ofBif h (fun h => (Ev.ofSome h)) (fun h => (Ev.ofBind h fun y10 h => (Ev.ofBif h (fun h => (Ev.ofSome h)) (fun h => (Ev.ofBind h fun y11 h => (Ev.ofBif h (fun h => (Ev.ofSome h)) (fun h => (ih2  _ h)))))))))))))))))) (fun h => (Ev.ofNone h)))) (fun h => (Ev.ofBif h (fun h => (Ev.ofSome h)) (fun h => (Ev.ofBif h (fun h => (Ev.ofSome h)) (fun h => (Ev.ofBind h fun y12 h => (Ev.ofBif h (fun h => (Ev.ofSome h)) (fun h => (Ev.ofBind h fun y13 h => (Ev.ofBif h (fun h => (Ev.ofSome h)) (fun h => (Ev.ofBind h fun y14 h => (Ev.ofBif h (fun h => (Ev.ofSome h)) (fun h => (ih2  _ h))))))))))))))))))))
theorem S_spec_GoodPolSchema_0_4 {x1 : (List DThingType)} {x4 : DPolSchema} (hl : x1.length ≤ maxLen) : ∀ (rest : List DThingType) (k : Nat) (r : Bool), rest = x1.drop k → P_spec_GoodPolSchema_0_4 x4 rest k = some r → Ev (fun n => L_spec_GoodPolSchema_0_4 n x1 (x1.length : Int) (k : Int) x4) r := by
  intro rest
  induction rest with
  | nil =>
    intro k r hr h
    have hk := drop_nil hr
    rw [P_spec_GoodPolSchema_0_4] at h
    refine Ev.step ?_ (fun n => L_spec_GoodPolSchema_0_4_eq n x1 (x1.length : Int) (k : Int) x4)
    rw [show decide ((k : Int) < (x1.length : Int)) = false from decide_eq_false (by omega)]
    exact Ev.neg rfl (Ev.ofLen h fun hl h => S_spec_GoodPolSchema_0_10 hl _ (0 : Nat) _ rfl h)
  | cons e rest ih =>
    intro k r hr h
    obtain ⟨hk, hx, hr2⟩ := drop_cons (d := (Ty.dflt TyThingType)) hr
    have hw := wrap_succ hl hk
    have ih2 : ∀ (r : Bool), P_spec_GoodPolSchema_0_4 x4 rest (k + 1) = some r → Ev (fun n => L_spec_GoodPolSchema_0_4 n x1 (x1.length : Int) (IntKind.wrap .i64 ((k : Int) + 1)) x4) r := by
      intro r h; rw [hw]; exact ih (k + 1) r hr2 h
    rw [P_spec_GoodPolSchema_0_4] at h
    refine Ev.step ?_ (fun n => L_spec_GoodPolSchema_0_4_eq n x1 (x1.length : Int) (k : Int) x4)
    rw [show decide ((k : Int) < (x1.length : Int)) = true from decide_eq_true (by omega), inB_nat2 hk, hx]
    exact Ev.pos rfl (Ev.pos rfl (Ev.ofBind h fun y1 h => (Ev.ofBif h (fun h => (Ev.ofSome h)) (fun h => (Ev.ofBif h (fun h => (Ev.ofSome h)) (fun h => (Ev.ofBif h (fun h => (Ev.ofBif h (fun h => (Ev.ofBind h fun y2 h => (Ev.ofBif h (fun h => (Ev.ofSome h)) (fun h => (Ev.ofBind h fun y3 h => (Ev.ofBif h (fun h => (Ev.ofSome h)) (fun h => (Ev.ofBind h fun y4 h => (Ev.ofBif h (fun h => (Ev.ofSome h)) (fun h => (ih2  _ h))))))))))) (fun h => (Ev.ofNone h)))) (fun h => (Ev.ofBind h fun y5 h => (Ev.ofBif h (fun h => (Ev.ofSome h)) (fun h => (Ev.ofBind h fun y6 h => (Ev.ofBif h (fun h => (Ev.ofSome h)) (fun h => (ih2  _ h)))))))))))))))
theorem S_spec_GoodPolSchema (a0 : DPolSchema) {r : Bool} (h : P_spec_GoodPolSchema a0 = some r) : Ev (fun n => F_spec_GoodPolSchema n a0) r := by
  rw [P_spec_GoodPolSchema] at h
  refine Ev.of_eq ?_ (fun n => F_spec_GoodPolSchema_eq n a0)
  exact (Ev.ofBif h (fun h => (Ev.ofSome h)) (fun h => (Ev.ofBif h (fun h => (Ev.ofSome h)) (fun h => (Ev.ofLen h fun hl h => S_spec_GoodPolSchema_0_4 hl _ (0 : Nat) _ rfl h)))))
theorem hcs_spec_GoodPolSchema : ∀ x ∈ cs_spec_GoodPolSchema, CtrOk Tryz.prog x := (conOf_cons ok_spec_GoodName (conOf_cons ok_spec_l1CmpText (conOf_cons ok_spec_l11GoodTypes (conOf_cons ok_spec_l11GoodAttrs (conOf_cons ok_spec_l7Id conOf_nil)))))
theorem ok_spec_GoodPolSchema : CtrOk Tryz.prog (c_spec_GoodPolSchema) := by
  refine ctr_of_run (c := c_spec_GoodPolSchema) (by kernel_rfl) (by kernel_rfl : Tryz.prog.funcs[36]? = some Tryz.f36) (code := Tryz.f36.body.getD .skip) (by kernel_rfl) (by kernel_rfl) (by kernel_rfl) (A := A_spec_GoodPolSchema) (I := In_spec_GoodPolSchema) (hcs_spec_GoodPolSchema) ?_
  rintro ⟨a0, u⟩ y hy
  exact (S_spec_GoodPolSchema a0 hy).get

/-! ## spec.l1Printed (193) -/
noncomputable def P_spec_l1Printed_0_2 : List Int → Option Bool
  | [] =>
      some true
  | e :: rest =>
      bif decide (e < 32) then
        some false
      else
        bif decide ((126 : Int) < e) then
          some false
        else
          P_spec_l1Printed_0_2 rest
noncomputable def P_spec_l1Printed (a0 : (List Int)) : Option Bool :=
  lenOk a0 (P_spec_l1Printed_0_2 a0)
noncomputable def c_spec_l1Printed : Ctr := ⟨193, [.str], [.bool], fun x => P_spec_l1Printed x.1⟩
def A_spec_l1Printed : List (List Nat × Ann) := [([0, 2], [.keep 0 0, .keep 0 3])]
def In_spec_l1Printed : List (List Nat × Nat) := []
noncomputable def cs_spec_l1Printed : List Ctr := []
noncomputable def F_spec_l1Printed (n : Nat) (a0 : (List Int)) : Option Bool := run Tryz.prog A_spec_l1Printed In_spec_l1Printed (conOf cs_spec_l1Printed) Tryz.f193 (Tryz.f193.body.getD .skip) (packT [.bool]) n (argsV [.str] (a0, ()))
noncomputable abbrev L_spec_l1Printed_0_2 (n : Nat) (x1 : (List Int)) (x2 : Int) : Option Bool := lam Tryz.prog A_spec_l1Printed In_spec_l1Printed (conOf cs_spec_l1Printed) Tryz.f193 (Tryz.f193.body.getD .skip) (packT [.bool]) n [0, 2] [.d .str x1, .d I64 x2]
theorem F_spec_l1Printed_eq (n : Nat) (a0 : (List Int)) : F_spec_l1Printed n a0 =
    L_spec_l1Printed_0_2 n a0 0 := by kernel_rfl
theorem L_spec_l1Printed_0_2_eq (n : Nat) (x1 : (List Int)) (x2 : Int) : L_spec_l1Printed_0_2 (n + 1) x1 x2 =
    bif decide (x2 < (x1.length : Int)) then
      bif inB x2 x1.length then
        bif decide (rd x1 x2 0 < 32) then
          some false
        else
          bif inB x2 x1.length then
            bif decide ((126 : Int) < rd x1 x2 0) then
              some false
            else
              L_spec_l1Printed_0_2 n x1 (IntKind.wrap .i64 (x2 + 1))
          else none
      else none
    else
      some true := by kernel_rfl
theorem S_spec_l1Printed_0_2 {x1 : (List Int)} (hl : x1.length ≤ maxLen) : ∀ (rest : List Int) (k : Nat) (r : Bool), rest = x1.drop k → P_spec_l1Printed_0_2 rest = some r → Ev (fun n => L_spec_l1Printed_0_2 n x1 (k : Int)) r := by
  intro rest
  induction rest with
  | nil =>
    intro k r hr h
    have hk := drop_nil hr
    rw [P_spec_l1Printed_0_2] at h
    refine Ev.step ?_ (fun n => L_spec_l1Printed_0_2_eq n x1 (k : Int))
    rw [show decide ((k : Int) < (x1.length : Int)) = false from decide_eq_false (by omega)]
    exact Ev.neg rfl (Ev.ofSome h)
  | cons e rest ih =>
    intro k r hr h
    obtain ⟨hk, hx, hr2⟩ := drop_cons (d := 0) hr
    have hw := wrap_succ hl hk
    have ih2 : ∀ (r : Bool), P_spec_l1Printed_0_2 rest = some r → Ev (fun n => L_spec_l1Printed_0_2 n x1 (IntKind.wrap .i64 ((k : Int) + 1))) r := by
      intro r h; rw [hw]; exact ih (k + 1) r hr2 h
    rw [P_spec_l1Printed_0_2] at h
    refine Ev.step ?_ (fun n => L_spec_l1Printed_0_2_eq n x1 (k : Int))
    rw [show decide ((k : Int) < (x1.length : Int)) = true from decide_eq_true (by omega), inB_nat2 hk, hx]
    exact Ev.pos rfl (Ev.pos rfl (Ev.ofBif h (fun h => (Ev.ofSome h)) (fun h => (Ev.pos rfl (Ev.ofBif h (fun h => (Ev.ofSome h)) (fun h => (ih2  _ h)))))))
theorem S_spec_l1Printed (a0 : (List Int)) {r : Bool} (h : P_spec_l1Printed a0 = some r) : Ev (fun n => F_spec_l1Printed n a0) r := by
  rw [P_spec_l1Printed] at h
  refine Ev.of_eq ?_ (fun n => F_spec_l1Printed_eq n a0)
  exact (Ev.ofLen h fun hl h => S_spec_l1Printed_0_2 hl _ (0 : Nat) _ rfl h)
theorem hcs_spec_l1Printed : ∀ x ∈ cs_spec_l1Printed, CtrOk Tryz.prog x := conOf_nil
theorem ok_spec_l1Printed : CtrOk Tryz.prog (c_spec_l1Printed) := by
  refine ctr_of_run (c := c_spec_l1Printed) (by kernel_rfl) (by kernel_rfl : Tryz.prog.funcs[193]? = some Tryz.f193) (code := Tryz.f193.body.getD .skip) (by kernel_rfl) (by kernel_rfl) (by kernel_rfl) (A := A_spec_l1Printed) (I := In_spec_l1Printed) (hcs_spec_l1Printed) ?_
  rintro ⟨a0, u⟩ y hy
  exact (S_spec_l1Printed a0 hy).get

/-! ## spec.l1Pow2 (213) -/
noncomputable def P_spec_l1Pow2_0_3 (x1 : Int) : Nat → Int → Int → Option Int
  | 0, _, _ => none
  | m + 1, x2, x3 =>
      bif decide (x3 < x1) then
        P_spec_l1Pow2_0_3 x1 m (IntKind.wrap .i64 (x2 * 2)) (IntKind.wrap .i64 (x3 + 1))
      else
        some x2
noncomputable def P_spec_l1Pow2 (m : Nat) (a0 : Int) : Option Int :=
  P_spec_l1Pow2_0_3 a0 m 1 0
noncomputable def E_spec_l1Pow2 (a0 : Int) : Option Int := evOpt fun m => P_spec_l1Pow2 m a0
noncomputable def c_spec_l1Pow2 : Ctr := ⟨213, [I64], [I64], fun x => E_spec_l1Pow2 x.1⟩
def A_spec_l1Pow2 : List (List Nat × Ann) := [([0, 3], [.keep 0 0, .keep 0 3, .keep 0 4])]
def In_spec_l1Pow2 : List (List Nat × Nat) := []
noncomputable def cs_spec_l1Pow2 : List Ctr := []
noncomputable def F_spec_l1Pow2 (n : Nat) (a0 : Int) : Option Int := run Tryz.prog A_spec_l1Pow2 In_spec_l1Pow2 (conOf cs_spec_l1Pow2) Tryz.f213 (Tryz.f213.body.getD .skip) (packT [I64]) n (argsV [I64] (a0, ()))
noncomputable abbrev L_spec_l1Pow2_0_3 (n : Nat) (x1 : Int) (x2 : Int) (x3 : Int) : Option Int := lam Tryz.prog A_spec_l1Pow2 In_spec_l1Pow2 (conOf cs_spec_l1Pow2) Tryz.f213 (Tryz.f213.body.getD .skip) (packT [I64]) n [0, 3] [.d I64 x1, .d I64 x2, .d I64 x3]
theorem F_spec_l1Pow2_eq (n : Nat) (a0 : Int) : F_spec_l1Pow2 n a0 =
    L_spec_l1Pow2_0_3 n a0 1 0 := by kernel_rfl
theorem L_spec_l1Pow2_0_3_eq (n : Nat) (x1 : Int) (x2 : Int) (x3 : Int) : L_spec_l1Pow2_0_3 (n + 1) x1 x2 x3 =
    bif decide (x3 < x1) then
      L_spec_l1Pow2_0_3 n x1 (IntKind.wrap .i64 (x2 * 2)) (IntKind.wrap .i64 (x3 + 1))
    else
      some x2 := by kernel_rfl
theorem S_spec_l1Pow2_0_3 {x1 : Int} : ∀ (m : Nat) (x2 : Int) (x3 : Int) (r : Int), P_spec_l1Pow2_0_3 x1 m x2 x3 = some r → Ev (fun n => L_spec_l1Pow2_0_3 n x1 x2 x3) r := by
  intro m
  induction m with
  | zero => intro x2 x3 r h; rw [P_spec_l1Pow2_0_3] at h; exact Ev.ofNone h
  | succ m ih2 =>
    intro x2 x3 r h
    rw [P_spec_l1Pow2_0_3] at h
    refine Ev.step ?_ (fun n => L_spec_l1Pow2_0_3_eq n x1 x2 x3)
    exact (Ev.ofBif h (fun h => (ih2 _ _ _ h)) (fun h => (Ev.ofSome h)))
theorem S_spec_l1Pow2 {m : Nat} (a0 : Int) {r : Int} (h : P_spec_l1Pow2 m a0 = some r) : Ev (fun n => F_spec_l1Pow2 n a0) r := by
  rw [P_spec_l1Pow2] at h
  refine Ev.of_eq ?_ (fun n => F_spec_l1Pow2_eq n a0)
  exact (S_spec_l1Pow2_0_3 _ _ _ _ h)
theorem hcs_spec_l1Pow2 : ∀ x ∈ cs_spec_l1Pow2, CtrOk Tryz.prog x := conOf_nil
theorem ok_spec_l1Pow2 : CtrOk Tryz.prog (c_spec_l1Pow2) := by
  refine ctr_of_run (c := c_spec_l1Pow2) (by kernel_rfl) (by kernel_rfl : Tryz.prog.funcs[213]? = some Tryz.f213) (code := Tryz.f213.body.getD .skip) (by kernel_rfl) (by kernel_rfl) (by kernel_rfl) (A := A_spec_l1Pow2) (I := In_spec_l1Pow2) (hcs_spec_l1Pow2) ?_
  rintro ⟨a0, u⟩ y hy
  exact let ⟨_, h⟩ := (evOpt_get hy).get; (S_spec_l1Pow2 a0 h).get

/-! ## spec.l1Block (196) -/
noncomputable def P_spec_l1Block (a0 : DAtom) : Option (Int × Int) :=
  Option.bind (E_spec_l1Pow2 (IntKind.wrap .i64 (32 - (Int.tmod a0.2.1 64)))) fun (y1 : Int) =>
  some (IntKind.wrap .i64 (Int.tdiv a0.2.1 64), y1)
noncomputable def c_spec_l1Block : Ctr := ⟨196, [TyAtom], [I64, I64], fun x => P_spec_l1Block x.1⟩
def A_spec_l1Block : List (List Nat × Ann) := []
def In_spec_l1Block : List (List Nat × Nat) := []
noncomputable def cs_spec_l1Block : List Ctr := [c_spec_l1Pow2]
noncomputable def F_spec_l1Block (n : Nat) (a0 : DAtom) : Option (Int × Int) := run Tryz.prog A_spec_l1Block In_spec_l1Block (conOf cs_spec_l1Block) Tryz.f196 (Tryz.f196.body.getD .skip) (packT [I64, I64]) n (argsV [TyAtom] (a0, ()))
theorem F_spec_l1Block_eq (n : Nat) (a0 : DAtom) : F_spec_l1Block n a0 =
    Option.bind (E_spec_l1Pow2 (IntKind.wrap .i64 (32 - (Int.tmod a0.2.1 64)))) fun (y1 : Int) =>
    some (IntKind.wrap .i64 (Int.tdiv a0.2.1 64), y1) := by kernel_rfl
theorem S_spec_l1Block (a0 : DAtom) {r : (Int × Int)} (h : P_spec_l1Block a0 = some r) : Ev (fun n => F_spec_l1Block n a0) r := by
  rw [P_spec_l1Block] at h
  refine Ev.of_eq ?_ (fun n => F_spec_l1Block_eq n a0)
  exact (Ev.ofBind h fun y1 h => (Ev.ofSome h))
theorem hcs_spec_l1Block : ∀ x ∈ cs_spec_l1Block, CtrOk Tryz.prog x := (conOf_cons ok_spec_l1Pow2 conOf_nil)
theorem ok_spec_l1Block : CtrOk Tryz.prog (c_spec_l1Block) := by
  refine ctr_of_run (c := c_spec_l1Block) (by kernel_rfl) (by kernel_rfl : Tryz.prog.funcs[196]? = some Tryz.f196) (code := Tryz.f196.body.getD .skip) (by kernel_rfl) (by kernel_rfl) (by kernel_rfl) (A := A_spec_l1Block) (I := In_spec_l1Block) (hcs_spec_l1Block) ?_
  rintro ⟨a0, u⟩ y hy
  exact (S_spec_l1Block a0 hy).get

/-! ## spec.GoodAtom (164) -/
noncomputable def P_spec_GoodAtom_1_8 (x1 : Int) (x2 : Bool) (x3 : DAtom) : Option Bool :=
  bif x2 then
    some true
  else
    bif decide (x1 = 3) then
      bif decide (x3.2.1 = 0) then
        bif decide ((x3.2.2.1.length : Int) ≤ 200) then
          Option.bind (P_spec_l1Printed x3.2.2.1) fun (y1 : Bool) =>
          some y1
        else
          some false
      else
        some false
    else
      bif decide (x1 = 4) then
        bif decide (x3.2.1 = 0) then
          Option.bind (P_spec_GoodName x3.2.2.2) fun (y2 : Bool) =>
          bif y2 then
            bif decide ((1 : Int) ≤ (x3.2.2.1.length : Int)) then
              bif decide ((x3.2.2.1.length : Int) ≤ 200) then
                Option.bind (P_spec_l1Printed x3.2.2.1) fun (y3 : Bool) =>
                some y3
              else
                some false
            else
              some false
          else
            some false
        else
          some false
      else
        bif decide (x1 = 6) then
          bif decide (x3.2.1 < 0) then
            some false
          else
            Option.bind (E_spec_l1Pow2 32) fun (y4 : Int) =>
            bif decide (IntKind.wrap .i64 (y4 - 1) < IntKind.wrap .i64 (Int.tdiv x3.2.1 64)) then
              some false
            else
              bif decide ((32 : Int) < Int.tmod x3.2.1 64) then
                some false
              else
                Option.bind (P_spec_l1Block x3) fun (y5 : (Int × Int)) =>
                bif decide (y5.2 = 0) then none else
                some (decide (Int.tmod y5.1 y5.2 = 0))
        else
          bif decide (x1 = 7) then
            bif decide (((-100000000000) : Int) ≤ x3.2.1) then
              some (decide (x3.2.1 ≤ 100000000000))
            else
              some false
          else
            some false
noncomputable def P_spec_GoodAtom_1_3 (x1 : DAtom) : Option Bool :=
  bif decide (x1.1 = 1) then
    bif decide (x1.2.1 = 0) then
      some true
    else
      some (decide (x1.2.1 = 1))
  else
    bif decide (x1.1 = 2) then
      P_spec_GoodAtom_1_8 x1.1 (decide (x1.1 = 2)) x1
    else
      P_spec_GoodAtom_1_8 x1.1 (decide (x1.1 = 5)) x1
noncomputable def P_spec_GoodAtom (a0 : DAtom) : Option Bool :=
  bif !decide (a0.1 = 3) then
    bif !decide (a0.1 = 4) then
      bif !decide (a0.2.2.1 = ([] : List Int)) then
        some false
      else
        bif !decide (a0.1 = 4) then
          bif !decide (a0.2.2.2 = ([] : List Int)) then
            some false
          else
            P_spec_GoodAtom_1_3 a0
        else
          P_spec_GoodAtom_1_3 a0
    else
      bif !decide (a0.1 = 4) then
        bif !decide (a0.2.2.2 = ([] : List Int)) then
          some false
        else
          P_spec_GoodAtom_1_3 a0
      else
        P_spec_GoodAtom_1_3 a0
  else
    bif !decide (a0.1 = 4) then
      bif !decide (a0.2.2.2 = ([] : List Int)) then
        some false
      else
        P_spec_GoodAtom_1_3 a0
    else
      P_spec_GoodAtom_1_3 a0
noncomputable def c_spec_GoodAtom : Ctr := ⟨164, [TyAtom], [.bool], fun x => P_spec_GoodAtom x.1⟩
def A_spec_GoodAtom : List (List Nat × Ann) := [([1, 3], [.keep 0 1, .boxd 0 1 TyAtom]), ([1, 8], [.keep 0 1, .keep 0 29, .keep 0 40, .boxd 0 1 TyAtom])]
def In_spec_GoodAtom : List (List Nat × Nat) := []
noncomputable def cs_spec_GoodAtom : List Ctr := [c_spec_l1Printed, c_spec_GoodName, c_spec_l1Pow2, c_spec_l1Block]
noncomputable def F_spec_GoodAtom (n : Nat) (a0 : DAtom) : Option Bool := run Tryz.prog A_spec_GoodAtom In_spec_GoodAtom (conOf cs_spec_GoodAtom) Tryz.f164 (Tryz.f164.body.getD .skip) (packT [.bool]) n (argsV [TyAtom] (a0, ()))
noncomputable abbrev L_spec_GoodAtom_1_3 (n : Nat) (x1 : DAtom) : Option Bool := lam Tryz.prog A_spec_GoodAtom In_spec_GoodAtom (conOf cs_spec_GoodAtom) Tryz.f164 (Tryz.f164.body.getD .skip) (packT [.bool]) n [1, 3] [.ptr 0 1 0, .agg (explode TyAtom x1)]
noncomputable abbrev L_spec_GoodAtom_1_8 (n : Nat) (x1 : Int) (x2 : Bool) (x3 : DAtom) : Option Bool := lam Tryz.prog A_spec_GoodAtom In_spec_GoodAtom (conOf cs_spec_GoodAtom) Tryz.f164 (Tryz.f164.body.getD .skip) (packT [.bool]) n [1, 8] [.ptr 0 1 0, .d I64 x1, .d .bool x2, .agg (explode TyAtom x3)]
theorem F_spec_GoodAtom_eq (n : Nat) (a0 : DAtom) : F_spec_GoodAtom n a0 =
    bif !decide (a0.1 = 3) then
      bif !decide (a0.1 = 4) then
        bif !decide (a0.2.2.1 = ([] : List Int)) then
          some false
        else
          bif !decide (a0.1 = 4) then
            bif !decide (a0.2.2.2 = ([] : List Int)) then
              some false
            else
              L_spec_GoodAtom_1_3 n a0
          else
            L_spec_GoodAtom_1_3 n a0
      else
        bif !decide (a0.1 = 4) then
          bif !decide (a0.2.2.2 = ([] : List Int)) then
            some false
          else
            L_spec_GoodAtom_1_3 n a0
        else
          L_spec_GoodAtom_1_3 n a0
    else
      bif !decide (a0.1 = 4) then
        bif !decide (a0.2.2.2 = ([] : List Int)) then
          some false
        else
          L_spec_GoodAtom_1_3 n a0
      else
        L_spec_GoodAtom_1_3 n a0 := by kernel_rfl
theorem L_spec_GoodAtom_1_3_eq (n : Nat) (x1 : DAtom) : L_spec_GoodAtom_1_3 (n + 1) x1 =
    bif decide (x1.1 = 1) then
      bif decide (x1.2.1 = 0) then
        some true
      else
        some (decide (x1.2.1 = 1))
    else
      bif decide (x1.1 = 2) then
        L_spec_GoodAtom_1_8 n x1.1 (decide (x1.1 = 2)) x1
      else
        L_spec_GoodAtom_1_8 n x1.1 (decide (x1.1 = 5)) x1 := by kernel_rfl
theorem L_spec_GoodAtom_1_8_eq (n : Nat) (x1 : Int) (x2 : Bool) (x3 : DAtom) : L_spec_GoodAtom_1_8 (n + 1) x1 x2 x3 =
    bif x2 then
      some true
    else
      bif decide (x1 = 3) then
        bif decide (x3.2.1 = 0) then
          bif decide ((x3.2.2.1.length : Int) ≤ 200) then
            Option.bind (P_spec_l1Printed x3.2.2.1) fun (y1 : Bool) =>
            some y1
          else
            some false
        else
          some false
      else
        bif decide (x1 = 4) then
          bif decide (x3.2.1 = 0) then
            Option.bind (P_spec_GoodName x3.2.2.2) fun (y2 : Bool) =>
            bif y2 then
              bif decide ((1 : Int) ≤ (x3.2.2.1.length : Int)) then
                bif decide ((x3.2.2.1.length : Int) ≤ 200) then
                  Option.bind (P_spec_l1Printed x3.2.2.1) fun (y3 : Bool) =>
                  some y3
                else
                  some false
              else
                some false
            else
              some false
          else
            some false
        else
          bif decide (x1 = 6) then
            bif decide (x3.2.1 < 0) then
              some false
            else
              Option.bind (E_spec_l1Pow2 32) fun (y4 : Int) =>
              bif decide (IntKind.wrap .i64 (y4 - 1) < IntKind.wrap .i64 (Int.tdiv x3.2.1 64)) then
                some false
              else
                bif decide ((32 : Int) < Int.tmod x3.2.1 64) then
                  some false
                else
                  Option.bind (P_spec_l1Block x3) fun (y5 : (Int × Int)) =>
                  bif decide (y5.2 = 0) then none else
                  some (decide (Int.tmod y5.1 y5.2 = 0))
          else
            bif decide (x1 = 7) then
              bif decide (((-100000000000) : Int) ≤ x3.2.1) then
                some (decide (x3.2.1 ≤ 100000000000))
              else
                some false
            else
              some false := by kernel_rfl
theorem S_spec_GoodAtom_1_8 {x1 : Int} {x2 : Bool} {x3 : DAtom} {r : Bool} (h : P_spec_GoodAtom_1_8 x1 x2 x3 = some r) : Ev (fun n => L_spec_GoodAtom_1_8 n x1 x2 x3) r := by
  rw [P_spec_GoodAtom_1_8] at h
  refine Ev.step ?_ (fun n => L_spec_GoodAtom_1_8_eq n x1 x2 x3)
  exact (Ev.ofBif h (fun h => (Ev.ofSome h)) (fun h => (Ev.ofBif h (fun h => (Ev.ofBif h (fun h => (Ev.ofBif h (fun h => (Ev.ofBind h fun y1 h => (Ev.ofSome h))) (fun h => (Ev.ofSome h)))) (fun h => (Ev.ofSome h)))) (fun h => (Ev.ofBif h (fun h => (Ev.ofBif h (fun h => (Ev.ofBind h fun y2 h => (Ev.ofBif h (fun h => (Ev.ofBif h (fun h => (Ev.ofBif h (fun h => (Ev.ofBind h fun y3 h => (Ev.ofSome h))) (fun h => (Ev.ofSome h)))) (fun h => (Ev.ofSome h)))) (fun h => (Ev.ofSome h))))) (fun h => (Ev.ofSome h)))) (fun h => (Ev.ofBif h (fun h => (Ev.ofBif h (fun h => (Ev.ofSome h)) (fun h => (Ev.ofBind h fun y4 h => (Ev.ofBif h (fun h => (Ev.ofSome h)) (fun h => (Ev.ofBif h (fun h => (Ev.ofSome h)) (fun h => (Ev.ofBind h fun y5 h => (Ev.ofBif h (fun h => (Ev.ofNone h)) (fun h => (Ev.ofSome h)))))))))))) (fun h => (Ev.ofBif h (fun h => (Ev.ofBif h (fun h => (Ev.ofSome h)) (fun h => (Ev.ofSome h)))) (fun h => (Ev.ofSome h)))))))))))
theorem S_spec_GoodAtom_1_3 {x1 : DAtom} {r : Bool} (h : P_spec_GoodAtom_1_3 x1 = some r) : Ev (fun n => L_spec_GoodAtom_1_3 n x1) r := by
  rw [P_spec_GoodAtom_1_3] at h
  refine Ev.step ?_ (fun n => L_spec_GoodAtom_1_3_eq n x1)
  exact (Ev.ofBif h (fun h => (Ev.ofBif h (fun h => (Ev.ofSome h)) (fun h => (Ev.ofSome h)))) (fun h => (Ev.ofBif h (fun h => (S_spec_GoodAtom_1_8 h)) (fun h => (S_spec_GoodAtom_1_8 h)))))
theorem S_spec_GoodAtom (a0 : DAtom) {r : Bool} (h : P_spec_GoodAtom a0 = some r) : Ev (fun n => F_spec_GoodAtom n a0) r := by
  rw [P_spec_GoodAtom] at h
  refine Ev.of_eq ?_ (fun n => F_spec_GoodAtom_eq n a0)
  exact (Ev.ofBif h (fun h => (Ev.ofBif h (fun h => (Ev.ofBif h (fun h => (Ev.ofSome h)) (fun h => (Ev.ofBif h (fun h => (Ev.ofBif h (fun h => (Ev.ofSome h)) (fun h => (S_spec_GoodAtom_1_3 h)))) (fun h => (S_spec_GoodAtom_1_3 h)))))) (fun h => (Ev.ofBif h (fun h => (Ev.ofBif h (fun h => (Ev.ofSome h)) (fun h => (S_spec_GoodAtom_1_3 h)))) (fun h => (S_spec_GoodAtom_1_3 h)))))) (fun h => (Ev.ofBif h (fun h => (Ev.ofBif h (fun h => (Ev.ofSome h)) (fun h => (S_spec_GoodAtom_1_3 h)))) (fun h => (S_spec_GoodAtom_1_3 h)))))
theorem hcs_spec_GoodAtom : ∀ x ∈ cs_spec_GoodAtom, CtrOk Tryz.prog x := (conOf_cons ok_spec_l1Printed (conOf_cons ok_spec_GoodName (conOf_cons ok_spec_l1Pow2 (conOf_cons ok_spec_l1Block conOf_nil))))
theorem ok_spec_GoodAtom : CtrOk Tryz.prog (c_spec_GoodAtom) := by
  refine ctr_of_run (c := c_spec_GoodAtom) (by kernel_rfl) (by kernel_rfl : Tryz.prog.funcs[164]? = some Tryz.f164) (code := Tryz.f164.body.getD .skip) (by kernel_rfl) (by kernel_rfl) (by kernel_rfl) (A := A_spec_GoodAtom) (I := In_spec_GoodAtom) (hcs_spec_GoodAtom) ?_
  rintro ⟨a0, u⟩ y hy
  exact (S_spec_GoodAtom a0 hy).get

/-! ## spec.l11Ref (89) -/
noncomputable def P_spec_l11Ref (a0 : DAtom) : Option Bool :=
  bif decide (a0.1 = 4) then
    Option.bind (P_spec_GoodAtom a0) fun (y1 : Bool) =>
    some y1
  else
    some false
noncomputable def c_spec_l11Ref : Ctr := ⟨89, [TyAtom], [.bool], fun x => P_spec_l11Ref x.1⟩
def A_spec_l11Ref : List (List Nat × Ann) := []
def In_spec_l11Ref : List (List Nat × Nat) := []
noncomputable def cs_spec_l11Ref : List Ctr := [c_spec_GoodAtom]
noncomputable def F_spec_l11Ref (n : Nat) (a0 : DAtom) : Option Bool := run Tryz.prog A_spec_l11Ref In_spec_l11Ref (conOf cs_spec_l11Ref) Tryz.f89 (Tryz.f89.body.getD .skip) (packT [.bool]) n (argsV [TyAtom] (a0, ()))
theorem F_spec_l11Ref_eq (n : Nat) (a0 : DAtom) : F_spec_l11Ref n a0 =
    bif decide (a0.1 = 4) then
      Option.bind (P_spec_GoodAtom a0) fun (y1 : Bool) =>
      some y1
    else
      some false := by kernel_rfl
theorem S_spec_l11Ref (a0 : DAtom) {r : Bool} (h : P_spec_l11Ref a0 = some r) : Ev (fun n => F_spec_l11Ref n a0) r := by
  rw [P_spec_l11Ref] at h
  refine Ev.of_eq ?_ (fun n => F_spec_l11Ref_eq n a0)
  exact (Ev.ofBif h (fun h => (Ev.ofBind h fun y1 h => (Ev.ofSome h))) (fun h => (Ev.ofSome h)))
theorem hcs_spec_l11Ref : ∀ x ∈ cs_spec_l11Ref, CtrOk Tryz.prog x := (conOf_cons ok_spec_GoodAtom conOf_nil)
theorem ok_spec_l11Ref : CtrOk Tryz.prog (c_spec_l11Ref) := by
  refine ctr_of_run (c := c_spec_l11Ref) (by kernel_rfl) (by kernel_rfl : Tryz.prog.funcs[89]? = some Tryz.f89) (code := Tryz.f89.body.getD .skip) (by kernel_rfl) (by kernel_rfl) (by kernel_rfl) (A := A_spec_l11Ref) (I := In_spec_l11Ref) (hcs_spec_l11Ref) ?_
  rintro ⟨a0, u⟩ y hy
  exact (S_spec_l11Ref a0 hy).get

/-! ## spec.l1Cmp (90) -/
noncomputable def P_spec_l1Cmp (a0 : DAtom) (a1 : DAtom) : Option Int :=
  bif !decide (T_spec_l1CmpNum a0.1 a1.1 = 0) then
    some (T_spec_l1CmpNum a0.1 a1.1)
  else
    bif !decide (T_spec_l1CmpNum a0.2.1 a1.2.1 = 0) then
      some (T_spec_l1CmpNum a0.2.1 a1.2.1)
    else
      Option.bind (P_spec_l1CmpText a0.2.2.2 a1.2.2.2) fun (y1 : Int) =>
      bif !decide (y1 = 0) then
        some y1
      else
        Option.bind (P_spec_l1CmpText a0.2.2.1 a1.2.2.1) fun (y2 : Int) =>
        some y2
noncomputable def c_spec_l1Cmp : Ctr := ⟨90, [TyAtom, TyAtom], [I64], fun x => P_spec_l1Cmp x.1 x.2.1⟩
def A_spec_l1Cmp : List (List Nat × Ann) := []
def In_spec_l1Cmp : List (List Nat × Nat) := []
noncomputable def cs_spec_l1Cmp : List Ctr := [c_spec_l1CmpNum, c_spec_l1CmpText]
noncomputable def F_spec_l1Cmp (n : Nat) (a0 : DAtom) (a1 : DAtom) : Option Int := run Tryz.prog A_spec_l1Cmp In_spec_l1Cmp (conOf cs_spec_l1Cmp) Tryz.f90 (Tryz.f90.body.getD .skip) (packT [I64]) n (argsV [TyAtom, TyAtom] (a0, a1, ()))
theorem F_spec_l1Cmp_eq (n : Nat) (a0 : DAtom) (a1 : DAtom) : F_spec_l1Cmp n a0 a1 =
    bif !decide (T_spec_l1CmpNum a0.1 a1.1 = 0) then
      some (T_spec_l1CmpNum a0.1 a1.1)
    else
      bif !decide (T_spec_l1CmpNum a0.2.1 a1.2.1 = 0) then
        some (T_spec_l1CmpNum a0.2.1 a1.2.1)
      else
        Option.bind (P_spec_l1CmpText a0.2.2.2 a1.2.2.2) fun (y1 : Int) =>
        bif !decide (y1 = 0) then
          some y1
        else
          Option.bind (P_spec_l1CmpText a0.2.2.1 a1.2.2.1) fun (y2 : Int) =>
          some y2 := by kernel_rfl
theorem S_spec_l1Cmp (a0 : DAtom) (a1 : DAtom) {r : Int} (h : P_spec_l1Cmp a0 a1 = some r) : Ev (fun n => F_spec_l1Cmp n a0 a1) r := by
  rw [P_spec_l1Cmp] at h
  refine Ev.of_eq ?_ (fun n => F_spec_l1Cmp_eq n a0 a1)
  exact (Ev.ofBif h (fun h => (Ev.ofSome h)) (fun h => (Ev.ofBif h (fun h => (Ev.ofSome h)) (fun h => (Ev.ofBind h fun y1 h => (Ev.ofBif h (fun h => (Ev.ofSome h)) (fun h => (Ev.ofBind h fun y2 h => (Ev.ofSome h)))))))))
theorem hcs_spec_l1Cmp : ∀ x ∈ cs_spec_l1Cmp, CtrOk Tryz.prog x := (conOf_cons ok_spec_l1CmpNum (conOf_cons ok_spec_l1CmpText conOf_nil))
theorem ok_spec_l1Cmp : CtrOk Tryz.prog (c_spec_l1Cmp) := by
  refine ctr_of_run (c := c_spec_l1Cmp) (by kernel_rfl) (by kernel_rfl : Tryz.prog.funcs[90]? = some Tryz.f90) (code := Tryz.f90.body.getD .skip) (by kernel_rfl) (by kernel_rfl) (by kernel_rfl) (A := A_spec_l1Cmp) (I := In_spec_l1Cmp) (hcs_spec_l1Cmp) ?_
  rintro ⟨a0, a1, u⟩ y hy
  exact (S_spec_l1Cmp a0 a1 hy).get

/-! ## spec.GoodValue (165) -/
noncomputable def P_spec_GoodValue_0_19 (x4 : DValue) : List (List Int) → Nat → Option Bool
  | [], k =>
      some true
  | e :: rest, k =>
      Option.bind (P_spec_GoodName (e)) fun (y4 : Bool) =>
      bif !(y4) then
        some false
      else
        bif decide ((0 : Int) < (k : Int)) then
          bif inB (IntKind.wrap .i64 ((k : Int) - 1)) x4.2.2.2.length then
            Option.bind (P_spec_l1CmpText (rd x4.2.2.2 (IntKind.wrap .i64 ((k : Int) - 1)) (Ty.dflt .str)) (e)) fun (y5 : Int) =>
            bif decide ((0 : Int) ≤ y5) then
              some false
            else
              P_spec_GoodValue_0_19 x4 rest (k + 1)
          else none
        else
          P_spec_GoodValue_0_19 x4 rest (k + 1)
noncomputable def P_spec_GoodValue_0_9 (x4 : DValue) : List DAtom → Nat → Option Bool
  | [], k =>
      bif decide (x4.1 = 2) then
        some (decide ((x4.2.2.2.length : Int) = 0))
      else
        bif !decide ((x4.2.2.2.length : Int) = (x4.2.2.1.length : Int)) then
          some false
        else
          lenOk x4.2.2.2 (P_spec_GoodValue_0_19 x4 x4.2.2.2 0)
  | e :: rest, k =>
      Option.bind (P_spec_GoodAtom (e)) fun (y2 : Bool) =>
      bif !(y2) then
        some false
      else
        bif decide (x4.1 = 2) then
          bif decide ((0 : Int) < (k : Int)) then
            bif inB (IntKind.wrap .i64 ((k : Int) - 1)) x4.2.2.1.length then
              Option.bind (P_spec_l1Cmp (rd x4.2.2.1 (IntKind.wrap .i64 ((k : Int) - 1)) (Ty.dflt TyAtom)) (e)) fun (y3 : Int) =>
              bif decide ((0 : Int) ≤ y3) then
                some false
              else
                P_spec_GoodValue_0_9 x4 rest (k + 1)
            else none
          else
            P_spec_GoodValue_0_9 x4 rest (k + 1)
        else
          P_spec_GoodValue_0_9 x4 rest (k + 1)
noncomputable def P_spec_GoodValue_1_6 (x1 : Bool) (x2 : DValue) : Option Bool :=
  bif x1 then
    bif !@decide (x2.2.1 = (0, 0, ([] : List Int), ([] : List Int))) (Ty.decEq TyAtom x2.2.1 (0, 0, ([] : List Int), ([] : List Int))) then
      some false
    else
      bif decide ((50 : Int) < (x2.2.2.1.length : Int)) then
        some false
      else
        lenOk x2.2.2.1 (P_spec_GoodValue_0_9 x2 x2.2.2.1 0)
  else
    some false
noncomputable def P_spec_GoodValue (a0 : DValue) : Option Bool :=
  bif decide (a0.1 = 1) then
    Option.bind (P_spec_GoodAtom a0.2.1) fun (y1 : Bool) =>
    bif y1 then
      bif decide ((a0.2.2.1.length : Int) = 0) then
        some (decide ((a0.2.2.2.length : Int) = 0))
      else
        some false
    else
      some false
  else
    bif decide (a0.1 = 2) then
      P_spec_GoodValue_1_6 (decide (a0.1 = 2)) a0
    else
      P_spec_GoodValue_1_6 (decide (a0.1 = 3)) a0
noncomputable def c_spec_GoodValue : Ctr := ⟨165, [TyValue], [.bool], fun x => P_spec_GoodValue x.1⟩
def A_spec_GoodValue : List (List Nat × Ann) := [([1, 6], [.keep 0 1, .keep 0 26, .boxd 0 1 TyValue]), ([0, 9], [.keep 0 1, .keep 0 40, .keep 0 41, .keep 0 42, .boxd 0 1 TyValue]), ([0, 19], [.keep 0 1, .keep 0 86, .keep 0 87, .keep 0 88, .boxd 0 1 TyValue])]
def In_spec_GoodValue : List (List Nat × Nat) := []
noncomputable def cs_spec_GoodValue : List Ctr := [c_spec_GoodAtom, c_spec_l1Cmp, c_spec_GoodName, c_spec_l1CmpText]
noncomputable def F_spec_GoodValue (n : Nat) (a0 : DValue) : Option Bool := run Tryz.prog A_spec_GoodValue In_spec_GoodValue (conOf cs_spec_GoodValue) Tryz.f165 (Tryz.f165.body.getD .skip) (packT [.bool]) n (argsV [TyValue] (a0, ()))
noncomputable abbrev L_spec_GoodValue_1_6 (n : Nat) (x1 : Bool) (x2 : DValue) : Option Bool := lam Tryz.prog A_spec_GoodValue In_spec_GoodValue (conOf cs_spec_GoodValue) Tryz.f165 (Tryz.f165.body.getD .skip) (packT [.bool]) n [1, 6] [.ptr 0 1 0, .d .bool x1, .agg (explode TyValue x2)]
noncomputable abbrev L_spec_GoodValue_0_9 (n : Nat) (x1 : (List DAtom)) (x2 : Int) (x3 : Int) (x4 : DValue) : Option Bool := lam Tryz.prog A_spec_GoodValue In_spec_GoodValue (conOf cs_spec_GoodValue) Tryz.f165 (Tryz.f165.body.getD .skip) (packT [.bool]) n [0, 9] [.ptr 0 1 0, .d (.list TyAtom) x1, .d I64 x2, .d I64 x3, .agg (explode TyValue x4)]
noncomputable abbrev L_spec_GoodValue_0_19 (n : Nat) (x1 : (List (List Int))) (x2 : Int) (x3 : Int) (x4 : DValue) : Option Bool := lam Tryz.prog A_spec_GoodValue In_spec_GoodValue (conOf cs_spec_GoodValue) Tryz.f165 (Tryz.f165.body.getD .skip) (packT [.bool]) n [0, 19] [.ptr 0 1 0, .d (.list .str) x1, .d I64 x2, .d I64 x3, .agg (explode TyValue x4)]
theorem F_spec_GoodValue_eq (n : Nat) (a0 : DValue) : F_spec_GoodValue n a0 =
    bif decide (a0.1 = 1) then
      Option.bind (P_spec_GoodAtom a0.2.1) fun (y1 : Bool) =>
      bif y1 then
        bif decide ((a0.2.2.1.length : Int) = 0) then
          some (decide ((a0.2.2.2.length : Int) = 0))
        else
          some false
      else
        some false
    else
      bif decide (a0.1 = 2) then
        L_spec_GoodValue_1_6 n (decide (a0.1 = 2)) a0
      else
        L_spec_GoodValue_1_6 n (decide (a0.1 = 3)) a0 := by kernel_rfl
theorem L_spec_GoodValue_1_6_eq (n : Nat) (x1 : Bool) (x2 : DValue) : L_spec_GoodValue_1_6 (n + 1) x1 x2 =
    bif x1 then
      bif !@decide (x2.2.1 = (0, 0, ([] : List Int), ([] : List Int))) (Ty.decEq TyAtom x2.2.1 (0, 0, ([] : List Int), ([] : List Int))) then
        some false
      else
        bif decide ((50 : Int) < (x2.2.2.1.length : Int)) then
          some false
        else
          L_spec_GoodValue_0_9 n x2.2.2.1 (x2.2.2.1.length : Int) 0 x2
    else
      some false := by kernel_rfl
theorem L_spec_GoodValue_0_9_eq (n : Nat) (x1 : (List DAtom)) (x2 : Int) (x3 : Int) (x4 : DValue) : L_spec_GoodValue_0_9 (n + 1) x1 x2 x3 x4 =
    bif decide (x3 < x2) then
      bif inB x3 x1.length then
        Option.bind (P_spec_GoodAtom (rd x1 x3 (Ty.dflt TyAtom))) fun (y2 : Bool) =>
        bif !(y2) then
          some false
        else
          bif decide (x4.1 = 2) then
            bif decide ((0 : Int) < x3) then
              bif inB (IntKind.wrap .i64 (x3 - 1)) x4.2.2.1.length then
                Option.bind (P_spec_l1Cmp (rd x4.2.2.1 (IntKind.wrap .i64 (x3 - 1)) (Ty.dflt TyAtom)) (rd x1 x3 (Ty.dflt TyAtom))) fun (y3 : Int) =>
                bif decide ((0 : Int) ≤ y3) then
                  some false
                else
                  L_spec_GoodValue_0_9 n x1 x2 (IntKind.wrap .i64 (x3 + 1)) x4
              else none
            else
              L_spec_GoodValue_0_9 n x1 x2 (IntKind.wrap .i64 (x3 + 1)) x4
          else
            L_spec_GoodValue_0_9 n x1 x2 (IntKind.wrap .i64 (x3 + 1)) x4
      else none
    else
      bif decide (x4.1 = 2) then
        some (decide ((x4.2.2.2.length : Int) = 0))
      else
        bif !decide ((x4.2.2.2.length : Int) = (x4.2.2.1.length : Int)) then
          some false
        else
          L_spec_GoodValue_0_19 n x4.2.2.2 (x4.2.2.2.length : Int) 0 x4 := by kernel_rfl
theorem L_spec_GoodValue_0_19_eq (n : Nat) (x1 : (List (List Int))) (x2 : Int) (x3 : Int) (x4 : DValue) : L_spec_GoodValue_0_19 (n + 1) x1 x2 x3 x4 =
    bif decide (x3 < x2) then
      bif inB x3 x1.length then
        Option.bind (P_spec_GoodName (rd x1 x3 (Ty.dflt .str))) fun (y4 : Bool) =>
        bif !(y4) then
          some false
        else
          bif decide ((0 : Int) < x3) then
            bif inB (IntKind.wrap .i64 (x3 - 1)) x4.2.2.2.length then
              Option.bind (P_spec_l1CmpText (rd x4.2.2.2 (IntKind.wrap .i64 (x3 - 1)) (Ty.dflt .str)) (rd x1 x3 (Ty.dflt .str))) fun (y5 : Int) =>
              bif decide ((0 : Int) ≤ y5) then
                some false
              else
                L_spec_GoodValue_0_19 n x1 x2 (IntKind.wrap .i64 (x3 + 1)) x4
            else none
          else
            L_spec_GoodValue_0_19 n x1 x2 (IntKind.wrap .i64 (x3 + 1)) x4
      else none
    else
      some true := by kernel_rfl
theorem S_spec_GoodValue_0_19 {x1 : (List (List Int))} {x4 : DValue} (hl : x1.length ≤ maxLen) : ∀ (rest : List (List Int)) (k : Nat) (r : Bool), rest = x1.drop k → P_spec_GoodValue_0_19 x4 rest k = some r → Ev (fun n => L_spec_GoodValue_0_19 n x1 (x1.length : Int) (k : Int) x4) r := by
  intro rest
  induction rest with
  | nil =>
    intro k r hr h
    have hk := drop_nil hr
    rw [P_spec_GoodValue_0_19] at h
    refine Ev.step ?_ (fun n => L_spec_GoodValue_0_19_eq n x1 (x1.length : Int) (k : Int) x4)
    rw [show decide ((k : Int) < (x1.length : Int)) = false from decide_eq_false (by omega)]
    exact Ev.neg rfl (Ev.ofSome h)
  | cons e rest ih =>
    intro k r hr h
    obtain ⟨hk, hx, hr2⟩ := drop_cons (d := (Ty.dflt .str)) hr
    have hw := wrap_succ hl hk
    have ih2 : ∀ (r : Bool), P_spec_GoodValue_0_19 x4 rest (k + 1) = some r → Ev (fun n => L_spec_GoodValue_0_19 n x1 (x1.length : Int) (IntKind.wrap .i64 ((k : Int) + 1)) x4) r := by
      intro r h; rw [hw]; exact ih (k + 1) r hr2 h
    rw [P_spec_GoodValue_0_19] at h
    refine Ev.step ?_ (fun n => L_spec_GoodValue_0_19_eq n x1 (x1.length : Int) (k : Int) x4)
    rw [show decide ((k : Int) < (x1.length : Int)) = true from decide_eq_true (by omega), inB_nat2 hk, hx]
    exact Ev.pos rfl (Ev.pos rfl (Ev.ofBind h fun y4 h => (Ev.ofBif h (fun h => (Ev.ofSome h)) (fun h => (Ev.ofBif h (fun h => (Ev.ofBif h (fun h => (Ev.ofBind h fun y5 h => (Ev.ofBif h (fun h => (Ev.ofSome h)) (fun h => (ih2  _ h))))) (fun h => (Ev.ofNone h)))) (fun h => (ih2  _ h)))))))
theorem S_spec_GoodValue_0_9 {x1 : (List DAtom)} {x4 : DValue} (hl : x1.length ≤ maxLen) : ∀ (rest : List DAtom) (k : Nat) (r : Bool), rest = x1.drop k → P_spec_GoodValue_0_9 x4 rest k = some r → Ev (fun n => L_spec_GoodValue_0_9 n x1 (x1.length : Int) (k : Int) x4) r := by
  intro rest
  induction rest with
  | nil =>
    intro k r hr h
    have hk := drop_nil hr
    rw [P_spec_GoodValue_0_9] at h
    refine Ev.step ?_ (fun n => L_spec_GoodValue_0_9_eq n x1 (x1.length : Int) (k : Int) x4)
    rw [show decide ((k : Int) < (x1.length : Int)) = false from decide_eq_false (by omega)]
    exact Ev.neg rfl (Ev.ofBif h (fun h => (Ev.ofSome h)) (fun h => (Ev.ofBif h (fun h => (Ev.ofSome h)) (fun h => (Ev.ofLen h fun hl h => S_spec_GoodValue_0_19 hl _ (0 : Nat) _ rfl h)))))
  | cons e rest ih =>
    intro k r hr h
    obtain ⟨hk, hx, hr2⟩ := drop_cons (d := (Ty.dflt TyAtom)) hr
    have hw := wrap_succ hl hk
    have ih2 : ∀ (r : Bool), P_spec_GoodValue_0_9 x4 rest (k + 1) = some r → Ev (fun n => L_spec_GoodValue_0_9 n x1 (x1.length : Int) (IntKind.wrap .i64 ((k : Int) + 1)) x4) r := by
      intro r h; rw [hw]; exact ih (k + 1) r hr2 h
    rw [P_spec_GoodValue_0_9] at h
    refine Ev.step ?_ (fun n => L_spec_GoodValue_0_9_eq n x1 (x1.length : Int) (k : Int) x4)
    rw [show decide ((k : Int) < (x1.length : Int)) = true from decide_eq_true (by omega), inB_nat2 hk, hx]
    exact Ev.pos rfl (Ev.pos rfl (Ev.ofBind h fun y2 h => (Ev.ofBif h (fun h => (Ev.ofSome h)) (fun h => (Ev.ofBif h (fun h => (Ev.ofBif h (fun h => (Ev.ofBif h (fun h => (Ev.ofBind h fun y3 h => (Ev.ofBif h (fun h => (Ev.ofSome h)) (fun h => (ih2  _ h))))) (fun h => (Ev.ofNone h)))) (fun h => (ih2  _ h)))) (fun h => (ih2  _ h)))))))
theorem S_spec_GoodValue_1_6 {x1 : Bool} {x2 : DValue} {r : Bool} (h : P_spec_GoodValue_1_6 x1 x2 = some r) : Ev (fun n => L_spec_GoodValue_1_6 n x1 x2) r := by
  rw [P_spec_GoodValue_1_6] at h
  refine Ev.step ?_ (fun n => L_spec_GoodValue_1_6_eq n x1 x2)
  exact (Ev.ofBif h (fun h => (Ev.ofBif h (fun h => (Ev.ofSome h)) (fun h => (Ev.ofBif h (fun h => (Ev.ofSome h)) (fun h => (Ev.ofLen h fun hl h => S_spec_GoodValue_0_9 hl _ (0 : Nat) _ rfl h)))))) (fun h => (Ev.ofSome h)))
theorem S_spec_GoodValue (a0 : DValue) {r : Bool} (h : P_spec_GoodValue a0 = some r) : Ev (fun n => F_spec_GoodValue n a0) r := by
  rw [P_spec_GoodValue] at h
  refine Ev.of_eq ?_ (fun n => F_spec_GoodValue_eq n a0)
  exact (Ev.ofBif h (fun h => (Ev.ofBind h fun y1 h => (Ev.ofBif h (fun h => (Ev.ofBif h (fun h => (Ev.ofSome h)) (fun h => (Ev.ofSome h)))) (fun h => (Ev.ofSome h))))) (fun h => (Ev.ofBif h (fun h => (S_spec_GoodValue_1_6 h)) (fun h => (S_spec_GoodValue_1_6 h)))))
theorem hcs_spec_GoodValue : ∀ x ∈ cs_spec_GoodValue, CtrOk Tryz.prog x := (conOf_cons ok_spec_GoodAtom (conOf_cons ok_spec_l1Cmp (conOf_cons ok_spec_GoodName (conOf_cons ok_spec_l1CmpText conOf_nil))))
theorem ok_spec_GoodValue : CtrOk Tryz.prog (c_spec_GoodValue) := by
  refine ctr_of_run (c := c_spec_GoodValue) (by kernel_rfl) (by kernel_rfl : Tryz.prog.funcs[165]? = some Tryz.f165) (code := Tryz.f165.body.getD .skip) (by kernel_rfl) (by kernel_rfl) (by kernel_rfl) (A := A_spec_GoodValue) (I := In_spec_GoodValue) (hcs_spec_GoodValue) ?_
  rintro ⟨a0, u⟩ y hy
  exact (S_spec_GoodValue a0 hy).get

/-! ## spec.l11Fields (91) -/
noncomputable def P_spec_l11Fields_0_4 (x1 : (List (List Int))) (x2 : (List DValue)) : List (List Int) → Nat → Option Bool
  | [], k =>
      some true
  | e :: rest, k =>
      Option.bind (P_spec_GoodName (e)) fun (y1 : Bool) =>
      bif !(y1) then
        some false
      else
        bif decide ((0 : Int) < (k : Int)) then
          bif inB (IntKind.wrap .i64 ((k : Int) - 1)) x1.length then
            Option.bind (P_spec_l1CmpText (rd x1 (IntKind.wrap .i64 ((k : Int) - 1)) (Ty.dflt .str)) (e)) fun (y2 : Int) =>
            bif decide ((0 : Int) ≤ y2) then
              some false
            else
              bif inB (k : Int) x2.length then
                Option.bind (P_spec_GoodValue (rd x2 (k : Int) (Ty.dflt TyValue))) fun (y3 : Bool) =>
                bif !(y3) then
                  some false
                else
                  bif inB (k : Int) x2.length then
                    bif decide ((rd x2 (k : Int) (Ty.dflt TyValue)).1 = 3) then
                      some false
                    else
                      P_spec_l11Fields_0_4 x1 x2 rest (k + 1)
                  else none
              else none
          else none
        else
          bif inB (k : Int) x2.length then
            Option.bind (P_spec_GoodValue (rd x2 (k : Int) (Ty.dflt TyValue))) fun (y4 : Bool) =>
            bif !(y4) then
              some false
            else
              bif inB (k : Int) x2.length then
                bif decide ((rd x2 (k : Int) (Ty.dflt TyValue)).1 = 3) then
                  some false
                else
                  P_spec_l11Fields_0_4 x1 x2 rest (k + 1)
              else none
          else none
noncomputable def P_spec_l11Fields (a0 : (List (List Int))) (a1 : (List DValue)) : Option Bool :=
  bif decide ((20 : Int) < (a0.length : Int)) then
    some false
  else
    bif !decide ((a1.length : Int) = (a0.length : Int)) then
      some false
    else
      lenOk a0 (P_spec_l11Fields_0_4 a0 a1 a0 0)
noncomputable def c_spec_l11Fields : Ctr := ⟨91, [(.list .str), (.list TyValue)], [.bool], fun x => P_spec_l11Fields x.1 x.2.1⟩
def A_spec_l11Fields : List (List Nat × Ann) := [([0, 4], [.keep 0 0, .keep 0 1, .keep 0 17, .keep 0 18, .keep 0 19])]
def In_spec_l11Fields : List (List Nat × Nat) := []
noncomputable def cs_spec_l11Fields : List Ctr := [c_spec_GoodName, c_spec_l1CmpText, c_spec_GoodValue]
noncomputable def F_spec_l11Fields (n : Nat) (a0 : (List (List Int))) (a1 : (List DValue)) : Option Bool := run Tryz.prog A_spec_l11Fields In_spec_l11Fields (conOf cs_spec_l11Fields) Tryz.f91 (Tryz.f91.body.getD .skip) (packT [.bool]) n (argsV [(.list .str), (.list TyValue)] (a0, a1, ()))
noncomputable abbrev L_spec_l11Fields_0_4 (n : Nat) (x1 : (List (List Int))) (x2 : (List DValue)) (x3 : (List (List Int))) (x4 : Int) (x5 : Int) : Option Bool := lam Tryz.prog A_spec_l11Fields In_spec_l11Fields (conOf cs_spec_l11Fields) Tryz.f91 (Tryz.f91.body.getD .skip) (packT [.bool]) n [0, 4] [.d (.list .str) x1, .d (.list TyValue) x2, .d (.list .str) x3, .d I64 x4, .d I64 x5]
theorem F_spec_l11Fields_eq (n : Nat) (a0 : (List (List Int))) (a1 : (List DValue)) : F_spec_l11Fields n a0 a1 =
    bif decide ((20 : Int) < (a0.length : Int)) then
      some false
    else
      bif !decide ((a1.length : Int) = (a0.length : Int)) then
        some false
      else
        L_spec_l11Fields_0_4 n a0 a1 a0 (a0.length : Int) 0 := by kernel_rfl
theorem L_spec_l11Fields_0_4_eq (n : Nat) (x1 : (List (List Int))) (x2 : (List DValue)) (x3 : (List (List Int))) (x4 : Int) (x5 : Int) : L_spec_l11Fields_0_4 (n + 1) x1 x2 x3 x4 x5 =
    bif decide (x5 < x4) then
      bif inB x5 x3.length then
        Option.bind (P_spec_GoodName (rd x3 x5 (Ty.dflt .str))) fun (y1 : Bool) =>
        bif !(y1) then
          some false
        else
          bif decide ((0 : Int) < x5) then
            bif inB (IntKind.wrap .i64 (x5 - 1)) x1.length then
              Option.bind (P_spec_l1CmpText (rd x1 (IntKind.wrap .i64 (x5 - 1)) (Ty.dflt .str)) (rd x3 x5 (Ty.dflt .str))) fun (y2 : Int) =>
              bif decide ((0 : Int) ≤ y2) then
                some false
              else
                bif inB x5 x2.length then
                  Option.bind (P_spec_GoodValue (rd x2 x5 (Ty.dflt TyValue))) fun (y3 : Bool) =>
                  bif !(y3) then
                    some false
                  else
                    bif inB x5 x2.length then
                      bif decide ((rd x2 x5 (Ty.dflt TyValue)).1 = 3) then
                        some false
                      else
                        L_spec_l11Fields_0_4 n x1 x2 x3 x4 (IntKind.wrap .i64 (x5 + 1))
                    else none
                else none
            else none
          else
            bif inB x5 x2.length then
              Option.bind (P_spec_GoodValue (rd x2 x5 (Ty.dflt TyValue))) fun (y4 : Bool) =>
              bif !(y4) then
                some false
              else
                bif inB x5 x2.length then
                  bif decide ((rd x2 x5 (Ty.dflt TyValue)).1 = 3) then
                    some false
                  else
                    L_spec_l11Fields_0_4 n x1 x2 x3 x4 (IntKind.wrap .i64 (x5 + 1))
                else none
            else none
      else none
    else
      some true := by kernel_rfl
theorem S_spec_l11Fields_0_4 {x1 : (List (List Int))} {x2 : (List DValue)} (hl : x1.length ≤ maxLen) : ∀ (rest : List (List Int)) (k : Nat) (r : Bool), rest = x1.drop k → P_spec_l11Fields_0_4 x1 x2 rest k = some r → Ev (fun n => L_spec_l11Fields_0_4 n x1 x2 x1 (x1.length : Int) (k : Int)) r := by
  intro rest
  induction rest with
  | nil =>
    intro k r hr h
    have hk := drop_nil hr
    rw [P_spec_l11Fields_0_4] at h
    refine Ev.step ?_ (fun n => L_spec_l11Fields_0_4_eq n x1 x2 x1 (x1.length : Int) (k : Int))
    rw [show decide ((k : Int) < (x1.length : Int)) = false from decide_eq_false (by omega)]
    exact Ev.neg rfl (Ev.ofSome h)
  | cons e rest ih =>
    intro k r hr h
    obtain ⟨hk, hx, hr2⟩ := drop_cons (d := (Ty.dflt .str)) hr
    have hw := wrap_succ hl hk
    have ih2 : ∀ (r : Bool), P_spec_l11Fields_0_4 x1 x2 rest (k + 1) = some r → Ev (fun n => L_spec_l11Fields_0_4 n x1 x2 x1 (x1.length : Int) (IntKind.wrap .i64 ((k : Int) + 1))) r := by
      intro r h; rw [hw]; exact ih (k + 1) r hr2 h
    rw [P_spec_l11Fields_0_4] at h
    refine Ev.step ?_ (fun n => L_spec_l11Fields_0_4_eq n x1 x2 x1 (x1.length : Int) (k : Int))
    rw [show decide ((k : Int) < (x1.length : Int)) = true from decide_eq_true (by omega), inB_nat2 hk, hx]
    exact Ev.pos rfl (Ev.pos rfl (Ev.ofBind h fun y1 h => (Ev.ofBif h (fun h => (Ev.ofSome h)) (fun h => (Ev.ofBif h (fun h => (Ev.ofBif h (fun h => (Ev.ofBind h fun y2 h => (Ev.ofBif h (fun h => (Ev.ofSome h)) (fun h => (Ev.ofBif h (fun h => (Ev.ofBind h fun y3 h => (Ev.ofBif h (fun h => (Ev.ofSome h)) (fun h => (Ev.ofBif h (fun h => (Ev.ofBif h (fun h => (Ev.ofSome h)) (fun h => (ih2  _ h)))) (fun h => (Ev.ofNone h))))))) (fun h => (Ev.ofNone h))))))) (fun h => (Ev.ofNone h)))) (fun h => (Ev.ofBif h (fun h => (Ev.ofBind h fun y4 h => (Ev.ofBif h (fun h => (Ev.ofSome h)) (fun h => (Ev.ofBif h (fun h => (Ev.ofBif h (fun h => (Ev.ofSome h)) (fun h => (ih2  _ h)))) (fun h => (Ev.ofNone h))))))) (fun h => (Ev.ofNone h)))))))))
theorem S_spec_l11Fields (a0 : (List (List Int))) (a1 : (List DValue)) {r : Bool} (h : P_spec_l11Fields a0 a1 = some r) : Ev (fun n => F_spec_l11Fields n a0 a1) r := by
  rw [P_spec_l11Fields] at h
  refine Ev.of_eq ?_ (fun n => F_spec_l11Fields_eq n a0 a1)
  exact (Ev.ofBif h (fun h => (Ev.ofSome h)) (fun h => (Ev.ofBif h (fun h => (Ev.ofSome h)) (fun h => (Ev.ofLen h fun hl h => S_spec_l11Fields_0_4 hl _ (0 : Nat) _ rfl h)))))
theorem hcs_spec_l11Fields : ∀ x ∈ cs_spec_l11Fields, CtrOk Tryz.prog x := (conOf_cons ok_spec_GoodName (conOf_cons ok_spec_l1CmpText (conOf_cons ok_spec_GoodValue conOf_nil)))
theorem ok_spec_l11Fields : CtrOk Tryz.prog (c_spec_l11Fields) := by
  refine ctr_of_run (c := c_spec_l11Fields) (by kernel_rfl) (by kernel_rfl : Tryz.prog.funcs[91]? = some Tryz.f91) (code := Tryz.f91.body.getD .skip) (by kernel_rfl) (by kernel_rfl) (by kernel_rfl) (A := A_spec_l11Fields) (I := In_spec_l11Fields) (hcs_spec_l11Fields) ?_
  rintro ⟨a0, a1, u⟩ y hy
  exact (S_spec_l11Fields a0 a1 hy).get

/-! ## spec.GoodThings (37) -/
noncomputable def P_spec_GoodThings_0_9 (K0 : Option Bool) (x8 : DThing) : List DAtom → Nat → Option Bool
  | [], k =>
      K0
  | e :: rest, k =>
      Option.bind (P_spec_l11Ref (e)) fun (y4 : Bool) =>
      bif !(y4) then
        some false
      else
        bif decide ((0 : Int) < (k : Int)) then
          bif inB (IntKind.wrap .i64 ((k : Int) - 1)) x8.2.1.length then
            Option.bind (P_spec_l1Cmp (rd x8.2.1 (IntKind.wrap .i64 ((k : Int) - 1)) (Ty.dflt TyAtom)) (e)) fun (y5 : Int) =>
            bif decide ((0 : Int) ≤ y5) then
              some false
            else
              P_spec_GoodThings_0_9 K0 x8 rest (k + 1)
          else none
        else
          P_spec_GoodThings_0_9 K0 x8 rest (k + 1)
noncomputable def P_spec_GoodThings_0_4 (x1 : (List DThing)) : List DThing → Nat → Option Bool
  | [], k =>
      some true
  | e :: rest, k =>
      Option.bind (P_spec_l11Ref ((e).1)) fun (y1 : Bool) =>
      bif !(y1) then
        some false
      else
        bif decide ((0 : Int) < (k : Int)) then
          bif inB (IntKind.wrap .i64 ((k : Int) - 1)) x1.length then
            Option.bind (P_spec_l1Cmp ((rd x1 (IntKind.wrap .i64 ((k : Int) - 1)) (Ty.dflt TyThing)).1) ((e).1)) fun (y2 : Int) =>
            bif decide ((0 : Int) ≤ y2) then
              some false
            else
              bif decide ((50 : Int) < ((((e).2).1).length : Int)) then
                some false
              else
                Option.bind (P_spec_l11Fields ((((e).2).2).1) ((((e).2).2).2)) fun (y3 : Bool) =>
                bif !(y3) then
                  some false
                else
                  lenOk (((e).2).1) (P_spec_GoodThings_0_9 (P_spec_GoodThings_0_4 x1 rest (k + 1)) (((e).1), ((e).2)) (((e).2).1) 0)
          else none
        else
          bif decide ((50 : Int) < ((((e).2).1).length : Int)) then
            some false
          else
            Option.bind (P_spec_l11Fields ((((e).2).2).1) ((((e).2).2).2)) fun (y6 : Bool) =>
            bif !(y6) then
              some false
            else
              lenOk (((e).2).1) (P_spec_GoodThings_0_9 (P_spec_GoodThings_0_4 x1 rest (k + 1)) (((e).1), ((e).2)) (((e).2).1) 0)
noncomputable def P_spec_GoodThings (a0 : (List DThing)) : Option Bool :=
  bif decide ((100 : Int) < (a0.length : Int)) then
    some false
  else
    lenOk a0 (P_spec_GoodThings_0_4 a0 a0 0)
noncomputable def c_spec_GoodThings : Ctr := ⟨37, [(.list TyThing)], [.bool], fun x => P_spec_GoodThings x.1⟩
def A_spec_GoodThings : List (List Nat × Ann) := [([0, 4], [.keep 0 0, .keep 0 10, .keep 0 11, .keep 0 12]), ([0, 9], [.keep 0 0, .keep 0 4, .keep 0 10, .keep 0 11, .keep 0 12, .keep 0 52, .keep 0 53, .keep 0 54, .boxd 0 4 TyThing])]
def In_spec_GoodThings : List (List Nat × Nat) := []
noncomputable def cs_spec_GoodThings : List Ctr := [c_spec_l11Ref, c_spec_l1Cmp, c_spec_l11Fields]
noncomputable def F_spec_GoodThings (n : Nat) (a0 : (List DThing)) : Option Bool := run Tryz.prog A_spec_GoodThings In_spec_GoodThings (conOf cs_spec_GoodThings) Tryz.f37 (Tryz.f37.body.getD .skip) (packT [.bool]) n (argsV [(.list TyThing)] (a0, ()))
noncomputable abbrev L_spec_GoodThings_0_4 (n : Nat) (x1 : (List DThing)) (x2 : (List DThing)) (x3 : Int) (x4 : Int) : Option Bool := lam Tryz.prog A_spec_GoodThings In_spec_GoodThings (conOf cs_spec_GoodThings) Tryz.f37 (Tryz.f37.body.getD .skip) (packT [.bool]) n [0, 4] [.d (.list TyThing) x1, .d (.list TyThing) x2, .d I64 x3, .d I64 x4]
noncomputable abbrev L_spec_GoodThings_0_9 (n : Nat) (x1 : (List DThing)) (x2 : (List DThing)) (x3 : Int) (x4 : Int) (x5 : (List DAtom)) (x6 : Int) (x7 : Int) (x8 : DThing) : Option Bool := lam Tryz.prog A_spec_GoodThings In_spec_GoodThings (conOf cs_spec_GoodThings) Tryz.f37 (Tryz.f37.body.getD .skip) (packT [.bool]) n [0, 9] [.d (.list TyThing) x1, .ptr 0 4 0, .d (.list TyThing) x2, .d I64 x3, .d I64 x4, .d (.list TyAtom) x5, .d I64 x6, .d I64 x7, .agg (explode TyThing x8)]
theorem F_spec_GoodThings_eq (n : Nat) (a0 : (List DThing)) : F_spec_GoodThings n a0 =
    bif decide ((100 : Int) < (a0.length : Int)) then
      some false
    else
      L_spec_GoodThings_0_4 n a0 a0 (a0.length : Int) 0 := by kernel_rfl
theorem L_spec_GoodThings_0_4_eq (n : Nat) (x1 : (List DThing)) (x2 : (List DThing)) (x3 : Int) (x4 : Int) : L_spec_GoodThings_0_4 (n + 1) x1 x2 x3 x4 =
    bif decide (x4 < x3) then
      bif inB x4 x2.length then
        Option.bind (P_spec_l11Ref ((rd x2 x4 (Ty.dflt TyThing)).1)) fun (y1 : Bool) =>
        bif !(y1) then
          some false
        else
          bif decide ((0 : Int) < x4) then
            bif inB (IntKind.wrap .i64 (x4 - 1)) x1.length then
              Option.bind (P_spec_l1Cmp ((rd x1 (IntKind.wrap .i64 (x4 - 1)) (Ty.dflt TyThing)).1) ((rd x2 x4 (Ty.dflt TyThing)).1)) fun (y2 : Int) =>
              bif decide ((0 : Int) ≤ y2) then
                some false
              else
                bif decide ((50 : Int) < ((((rd x2 x4 (Ty.dflt TyThing)).2).1).length : Int)) then
                  some false
                else
                  Option.bind (P_spec_l11Fields ((((rd x2 x4 (Ty.dflt TyThing)).2).2).1) ((((rd x2 x4 (Ty.dflt TyThing)).2).2).2)) fun (y3 : Bool) =>
                  bif !(y3) then
                    some false
                  else
                    L_spec_GoodThings_0_9 n x1 x2 x3 x4 (((rd x2 x4 (Ty.dflt TyThing)).2).1) ((((rd x2 x4 (Ty.dflt TyThing)).2).1).length : Int) 0 (((rd x2 x4 (Ty.dflt TyThing)).1), ((rd x2 x4 (Ty.dflt TyThing)).2))
            else none
          else
            bif decide ((50 : Int) < ((((rd x2 x4 (Ty.dflt TyThing)).2).1).length : Int)) then
              some false
            else
              Option.bind (P_spec_l11Fields ((((rd x2 x4 (Ty.dflt TyThing)).2).2).1) ((((rd x2 x4 (Ty.dflt TyThing)).2).2).2)) fun (y6 : Bool) =>
              bif !(y6) then
                some false
              else
                L_spec_GoodThings_0_9 n x1 x2 x3 x4 (((rd x2 x4 (Ty.dflt TyThing)).2).1) ((((rd x2 x4 (Ty.dflt TyThing)).2).1).length : Int) 0 (((rd x2 x4 (Ty.dflt TyThing)).1), ((rd x2 x4 (Ty.dflt TyThing)).2))
      else none
    else
      some true := by kernel_rfl
theorem L_spec_GoodThings_0_9_eq (n : Nat) (x1 : (List DThing)) (x2 : (List DThing)) (x3 : Int) (x4 : Int) (x5 : (List DAtom)) (x6 : Int) (x7 : Int) (x8 : DThing) : L_spec_GoodThings_0_9 (n + 1) x1 x2 x3 x4 x5 x6 x7 x8 =
    bif decide (x7 < x6) then
      bif inB x7 x5.length then
        Option.bind (P_spec_l11Ref (rd x5 x7 (Ty.dflt TyAtom))) fun (y4 : Bool) =>
        bif !(y4) then
          some false
        else
          bif decide ((0 : Int) < x7) then
            bif inB (IntKind.wrap .i64 (x7 - 1)) x8.2.1.length then
              Option.bind (P_spec_l1Cmp (rd x8.2.1 (IntKind.wrap .i64 (x7 - 1)) (Ty.dflt TyAtom)) (rd x5 x7 (Ty.dflt TyAtom))) fun (y5 : Int) =>
              bif decide ((0 : Int) ≤ y5) then
                some false
              else
                L_spec_GoodThings_0_9 n x1 x2 x3 x4 x5 x6 (IntKind.wrap .i64 (x7 + 1)) x8
            else none
          else
            L_spec_GoodThings_0_9 n x1 x2 x3 x4 x5 x6 (IntKind.wrap .i64 (x7 + 1)) x8
      else none
    else
      L_spec_GoodThings_0_4 n x1 x2 x3 (IntKind.wrap .i64 (x4 + 1)) := by kernel_rfl
theorem S_spec_GoodThings_0_9 {K0 : Option Bool} {x1 : (List DThing)} {x3 : Int} {x4 : Int} {x5 : (List DAtom)} {x8 : DThing} (hl : x5.length ≤ maxLen) (hK0 : ∀  (r : Bool), K0 = some r → Ev (fun n => L_spec_GoodThings_0_4 n x1 x1 x3 (IntKind.wrap .i64 (x4 + 1))) r) : ∀ (rest : List DAtom) (k : Nat) (r : Bool), rest = x5.drop k → P_spec_GoodThings_0_9 K0 x8 rest k = some r → Ev (fun n => L_spec_GoodThings_0_9 n x1 x1 x3 x4 x5 (x5.length : Int) (k : Int) x8) r := by
  intro rest
  induction rest with
  | nil =>
    intro k r hr h
    have hk := drop_nil hr
    rw [P_spec_GoodThings_0_9] at h
    refine Ev.step ?_ (fun n => L_spec_GoodThings_0_9_eq n x1 x1 x3 x4 x5 (x5.length : Int) (k : Int) x8)
    rw [show decide ((k : Int) < (x5.length : Int)) = false from decide_eq_false (by omega)]
    exact Ev.neg rfl (hK0  _ h)
  | cons e rest ih =>
    intro k r hr h
    obtain ⟨hk, hx, hr2⟩ := drop_cons (d := (Ty.dflt TyAtom)) hr
    have hw := wrap_succ hl hk
    have ih2 : ∀ (r : Bool), P_spec_GoodThings_0_9 K0 x8 rest (k + 1) = some r → Ev (fun n => L_spec_GoodThings_0_9 n x1 x1 x3 x4 x5 (x5.length : Int) (IntKind.wrap .i64 ((k : Int) + 1)) x8) r := by
      intro r h; rw [hw]; exact ih (k + 1) r hr2 h
    rw [P_spec_GoodThings_0_9] at h
    refine Ev.step ?_ (fun n => L_spec_GoodThings_0_9_eq n x1 x1 x3 x4 x5 (x5.length : Int) (k : Int) x8)
    rw [show decide ((k : Int) < (x5.length : Int)) = true from decide_eq_true (by omega), inB_nat2 hk, hx]
    exact Ev.pos rfl (Ev.pos rfl (Ev.ofBind h fun y4 h => (Ev.ofBif h (fun h => (Ev.ofSome h)) (fun h => (Ev.ofBif h (fun h => (Ev.ofBif h (fun h => (Ev.ofBind h fun y5 h => (Ev.ofBif h (fun h => (Ev.ofSome h)) (fun h => (ih2  _ h))))) (fun h => (Ev.ofNone h)))) (fun h => (ih2  _ h)))))))
theorem S_spec_GoodThings_0_4 {x1 : (List DThing)} (hl : x1.length ≤ maxLen) : ∀ (rest : List DThing) (k : Nat) (r : Bool), rest = x1.drop k → P_spec_GoodThings_0_4 x1 rest k = some r → Ev (fun n => L_spec_GoodThings_0_4 n x1 x1 (x1.length : Int) (k : Int)) r := by
  intro rest
  induction rest with
  | nil =>
    intro k r hr h
    have hk := drop_nil hr
    rw [P_spec_GoodThings_0_4] at h
    refine Ev.step ?_ (fun n => L_spec_GoodThings_0_4_eq n x1 x1 (x1.length : Int) (k : Int))
    rw [show decide ((k : Int) < (x1.length : Int)) = false from decide_eq_false (by omega)]
    exact Ev.neg rfl (Ev.ofSome h)
  | cons e rest ih =>
    intro k r hr h
    obtain ⟨hk, hx, hr2⟩ := drop_cons (d := (Ty.dflt TyThing)) hr
    have hw := wrap_succ hl hk
    have ih2 : ∀ (r : Bool), P_spec_GoodThings_0_4 x1 rest (k + 1) = some r → Ev (fun n => L_spec_GoodThings_0_4 n x1 x1 (x1.length : Int) (IntKind.wrap .i64 ((k : Int) + 1))) r := by
      intro r h; rw [hw]; exact ih (k + 1) r hr2 h
    rw [P_spec_GoodThings_0_4] at h
    refine Ev.step ?_ (fun n => L_spec_GoodThings_0_4_eq n x1 x1 (x1.length : Int) (k : Int))
    rw [show decide ((k : Int) < (x1.length : Int)) = true from decide_eq_true (by omega), inB_nat2 hk, hx]
    exact Ev.pos rfl (Ev.pos rfl (Ev.ofBind h fun y1 h => (Ev.ofBif h (fun h => (Ev.ofSome h)) (fun h => (Ev.ofBif h (fun h => (Ev.ofBif h (fun h => (Ev.ofBind h fun y2 h => (Ev.ofBif h (fun h => (Ev.ofSome h)) (fun h => (Ev.ofBif h (fun h => (Ev.ofSome h)) (fun h => (Ev.ofBind h fun y3 h => (Ev.ofBif h (fun h => (Ev.ofSome h)) (fun h => (Ev.ofLen h fun hl h => S_spec_GoodThings_0_9 hl ih2 _ (0 : Nat) _ rfl h)))))))))) (fun h => (Ev.ofNone h)))) (fun h => (Ev.ofBif h (fun h => (Ev.ofSome h)) (fun h => (Ev.ofBind h fun y6 h => (Ev.ofBif h (fun h => (Ev.ofSome h)) (fun h => (Ev.ofLen h fun hl h => S_spec_GoodThings_0_9 hl ih2 _ (0 : Nat) _ rfl h))))))))))))
theorem S_spec_GoodThings (a0 : (List DThing)) {r : Bool} (h : P_spec_GoodThings a0 = some r) : Ev (fun n => F_spec_GoodThings n a0) r := by
  rw [P_spec_GoodThings] at h
  refine Ev.of_eq ?_ (fun n => F_spec_GoodThings_eq n a0)
  exact (Ev.ofBif h (fun h => (Ev.ofSome h)) (fun h => (Ev.ofLen h fun hl h => S_spec_GoodThings_0_4 hl _ (0 : Nat) _ rfl h)))
theorem hcs_spec_GoodThings : ∀ x ∈ cs_spec_GoodThings, CtrOk Tryz.prog x := (conOf_cons ok_spec_l11Ref (conOf_cons ok_spec_l1Cmp (conOf_cons ok_spec_l11Fields conOf_nil)))
theorem ok_spec_GoodThings : CtrOk Tryz.prog (c_spec_GoodThings) := by
  refine ctr_of_run (c := c_spec_GoodThings) (by kernel_rfl) (by kernel_rfl : Tryz.prog.funcs[37]? = some Tryz.f37) (code := Tryz.f37.body.getD .skip) (by kernel_rfl) (by kernel_rfl) (by kernel_rfl) (A := A_spec_GoodThings) (I := In_spec_GoodThings) (hcs_spec_GoodThings) ?_
  rintro ⟨a0, u⟩ y hy
  exact (S_spec_GoodThings a0 hy).get

/-! ## spec.GoodRequest (38) -/
noncomputable def P_spec_GoodRequest (a0 : DRequest) : Option Bool :=
  Option.bind (P_spec_l11Ref a0.1) fun (y1 : Bool) =>
  bif y1 then
    Option.bind (P_spec_l11Ref a0.2.1) fun (y2 : Bool) =>
    bif y2 then
      Option.bind (P_spec_l11Ref a0.2.2.1) fun (y3 : Bool) =>
      bif y3 then
        Option.bind (P_spec_l11Fields a0.2.2.2.1 a0.2.2.2.2) fun (y4 : Bool) =>
        some y4
      else
        some false
    else
      some false
  else
    some false
noncomputable def c_spec_GoodRequest : Ctr := ⟨38, [TyRequest], [.bool], fun x => P_spec_GoodRequest x.1⟩
def A_spec_GoodRequest : List (List Nat × Ann) := []
def In_spec_GoodRequest : List (List Nat × Nat) := []
noncomputable def cs_spec_GoodRequest : List Ctr := [c_spec_l11Ref, c_spec_l11Fields]
noncomputable def F_spec_GoodRequest (n : Nat) (a0 : DRequest) : Option Bool := run Tryz.prog A_spec_GoodRequest In_spec_GoodRequest (conOf cs_spec_GoodRequest) Tryz.f38 (Tryz.f38.body.getD .skip) (packT [.bool]) n (argsV [TyRequest] (a0, ()))
theorem F_spec_GoodRequest_eq (n : Nat) (a0 : DRequest) : F_spec_GoodRequest n a0 =
    Option.bind (P_spec_l11Ref a0.1) fun (y1 : Bool) =>
    bif y1 then
      Option.bind (P_spec_l11Ref a0.2.1) fun (y2 : Bool) =>
      bif y2 then
        Option.bind (P_spec_l11Ref a0.2.2.1) fun (y3 : Bool) =>
        bif y3 then
          Option.bind (P_spec_l11Fields a0.2.2.2.1 a0.2.2.2.2) fun (y4 : Bool) =>
          some y4
        else
          some false
      else
        some false
    else
      some false := by kernel_rfl
theorem S_spec_GoodRequest (a0 : DRequest) {r : Bool} (h : P_spec_GoodRequest a0 = some r) : Ev (fun n => F_spec_GoodRequest n a0) r := by
  rw [P_spec_GoodRequest] at h
  refine Ev.of_eq ?_ (fun n => F_spec_GoodRequest_eq n a0)
  exact (Ev.ofBind h fun y1 h => (Ev.ofBif h (fun h => (Ev.ofBind h fun y2 h => (Ev.ofBif h (fun h => (Ev.ofBind h fun y3 h => (Ev.ofBif h (fun h => (Ev.ofBind h fun y4 h => (Ev.ofSome h))) (fun h => (Ev.ofSome h))))) (fun h => (Ev.ofSome h))))) (fun h => (Ev.ofSome h))))
theorem hcs_spec_GoodRequest : ∀ x ∈ cs_spec_GoodRequest, CtrOk Tryz.prog x := (conOf_cons ok_spec_l11Ref (conOf_cons ok_spec_l11Fields conOf_nil))
theorem ok_spec_GoodRequest : CtrOk Tryz.prog (c_spec_GoodRequest) := by
  refine ctr_of_run (c := c_spec_GoodRequest) (by kernel_rfl) (by kernel_rfl : Tryz.prog.funcs[38]? = some Tryz.f38) (code := Tryz.f38.body.getD .skip) (by kernel_rfl) (by kernel_rfl) (by kernel_rfl) (A := A_spec_GoodRequest) (I := In_spec_GoodRequest) (hcs_spec_GoodRequest) ?_
  rintro ⟨a0, u⟩ y hy
  exact (S_spec_GoodRequest a0 hy).get

/-! ## spec.l11Attr (92) -/
noncomputable def P_spec_l11Attr_0_2 (x1 : (List Int)) : List DAttrKind → Option (DAttrKind × Bool)
  | [] =>
      some ((([] : List Int), ([] : List Int), false), false)
  | e :: rest =>
      bif decide ((e).1 = x1) then
        some ((e), true)
      else
        P_spec_l11Attr_0_2 x1 rest
noncomputable def P_spec_l11Attr (a0 : (List DAttrKind)) (a1 : (List Int)) : Option (DAttrKind × Bool) :=
  lenOk a0 (P_spec_l11Attr_0_2 a1 a0)
noncomputable def c_spec_l11Attr : Ctr := ⟨92, [(.list TyAttrKind), .str], [TyAttrKind, .bool], fun x => P_spec_l11Attr x.1 x.2.1⟩
def A_spec_l11Attr : List (List Nat × Ann) := [([0, 2], [.keep 0 1, .keep 0 4, .keep 0 8, .keep 0 9, .keep 0 10, .boxd 0 4 TyAttrKind])]
def In_spec_l11Attr : List (List Nat × Nat) := []
noncomputable def cs_spec_l11Attr : List Ctr := []
noncomputable def F_spec_l11Attr (n : Nat) (a0 : (List DAttrKind)) (a1 : (List Int)) : Option (DAttrKind × Bool) := run Tryz.prog A_spec_l11Attr In_spec_l11Attr (conOf cs_spec_l11Attr) Tryz.f92 (Tryz.f92.body.getD .skip) (packT [TyAttrKind, .bool]) n (argsV [(.list TyAttrKind), .str] (a0, a1, ()))
noncomputable abbrev L_spec_l11Attr_0_2 (n : Nat) (x1 : (List Int)) (x2 : (List DAttrKind)) (x3 : Int) (x4 : Int) (x5 : DAttrKind) : Option (DAttrKind × Bool) := lam Tryz.prog A_spec_l11Attr In_spec_l11Attr (conOf cs_spec_l11Attr) Tryz.f92 (Tryz.f92.body.getD .skip) (packT [TyAttrKind, .bool]) n [0, 2] [.d .str x1, .ptr 0 4 0, .d (.list TyAttrKind) x2, .d I64 x3, .d I64 x4, .agg (explode TyAttrKind x5)]
theorem F_spec_l11Attr_eq (n : Nat) (a0 : (List DAttrKind)) (a1 : (List Int)) : F_spec_l11Attr n a0 a1 =
    L_spec_l11Attr_0_2 n a1 a0 (a0.length : Int) 0 (([] : List Int), ([] : List Int), false) := by kernel_rfl
theorem L_spec_l11Attr_0_2_eq (n : Nat) (x1 : (List Int)) (x2 : (List DAttrKind)) (x3 : Int) (x4 : Int) (x5 : DAttrKind) : L_spec_l11Attr_0_2 (n + 1) x1 x2 x3 x4 x5 =
    bif decide (x4 < x3) then
      bif inB x4 x2.length then
        bif decide ((rd x2 x4 (Ty.dflt TyAttrKind)).1 = x1) then
          some ((rd x2 x4 (Ty.dflt TyAttrKind)), true)
        else
          L_spec_l11Attr_0_2 n x1 x2 x3 (IntKind.wrap .i64 (x4 + 1)) x5
      else none
    else
      some ((([] : List Int), ([] : List Int), false), false) := by kernel_rfl
theorem S_spec_l11Attr_0_2 {x1 : (List Int)} {x2 : (List DAttrKind)} {x5 : DAttrKind} (hl : x2.length ≤ maxLen) : ∀ (rest : List DAttrKind) (k : Nat) (r : (DAttrKind × Bool)), rest = x2.drop k → P_spec_l11Attr_0_2 x1 rest = some r → Ev (fun n => L_spec_l11Attr_0_2 n x1 x2 (x2.length : Int) (k : Int) x5) r := by
  intro rest
  induction rest with
  | nil =>
    intro k r hr h
    have hk := drop_nil hr
    rw [P_spec_l11Attr_0_2] at h
    refine Ev.step ?_ (fun n => L_spec_l11Attr_0_2_eq n x1 x2 (x2.length : Int) (k : Int) x5)
    rw [show decide ((k : Int) < (x2.length : Int)) = false from decide_eq_false (by omega)]
    exact Ev.neg rfl (Ev.ofSome h)
  | cons e rest ih =>
    intro k r hr h
    obtain ⟨hk, hx, hr2⟩ := drop_cons (d := (Ty.dflt TyAttrKind)) hr
    have hw := wrap_succ hl hk
    have ih2 : ∀ (r : (DAttrKind × Bool)), P_spec_l11Attr_0_2 x1 rest = some r → Ev (fun n => L_spec_l11Attr_0_2 n x1 x2 (x2.length : Int) (IntKind.wrap .i64 ((k : Int) + 1)) x5) r := by
      intro r h; rw [hw]; exact ih (k + 1) r hr2 h
    rw [P_spec_l11Attr_0_2] at h
    refine Ev.step ?_ (fun n => L_spec_l11Attr_0_2_eq n x1 x2 (x2.length : Int) (k : Int) x5)
    rw [show decide ((k : Int) < (x2.length : Int)) = true from decide_eq_true (by omega), inB_nat2 hk, hx]
    exact Ev.pos rfl (Ev.pos rfl (Ev.ofBif h (fun h => (Ev.ofSome h)) (fun h => (ih2  _ h))))
theorem S_spec_l11Attr (a0 : (List DAttrKind)) (a1 : (List Int)) {r : (DAttrKind × Bool)} (h : P_spec_l11Attr a0 a1 = some r) : Ev (fun n => F_spec_l11Attr n a0 a1) r := by
  rw [P_spec_l11Attr] at h
  refine Ev.of_eq ?_ (fun n => F_spec_l11Attr_eq n a0 a1)
  exact (Ev.ofLen h fun hl h => S_spec_l11Attr_0_2 hl _ (0 : Nat) _ rfl h)
theorem hcs_spec_l11Attr : ∀ x ∈ cs_spec_l11Attr, CtrOk Tryz.prog x := conOf_nil
theorem ok_spec_l11Attr : CtrOk Tryz.prog (c_spec_l11Attr) := by
  refine ctr_of_run (c := c_spec_l11Attr) (by kernel_rfl) (by kernel_rfl : Tryz.prog.funcs[92]? = some Tryz.f92) (code := Tryz.f92.body.getD .skip) (by kernel_rfl) (by kernel_rfl) (by kernel_rfl) (A := A_spec_l11Attr) (I := In_spec_l11Attr) (hcs_spec_l11Attr) ?_
  rintro ⟨a0, a1, u⟩ y hy
  exact (S_spec_l11Attr a0 a1 hy).get

/-! ## spec.l6Kinds (143) -/
noncomputable def T_spec_l6Kinds  : (List (List Int)) :=
  ([([] : List Int), ([98, 111, 111, 108] : List Int), ([110, 117, 109] : List Int), ([116, 101, 120, 116] : List Int), ([114, 101, 102] : List Int), ([100, 101, 99] : List Int), ([97, 100, 100, 114] : List Int), ([116, 105, 109, 101] : List Int)] : List (List Int))
noncomputable def c_spec_l6Kinds : Ctr := ⟨143, [], [(.list .str)], fun x => some (T_spec_l6Kinds)⟩
def A_spec_l6Kinds : List (List Nat × Ann) := []
def In_spec_l6Kinds : List (List Nat × Nat) := []
noncomputable def cs_spec_l6Kinds : List Ctr := []
noncomputable def F_spec_l6Kinds (n : Nat)  : Option (List (List Int)) := run Tryz.prog A_spec_l6Kinds In_spec_l6Kinds (conOf cs_spec_l6Kinds) Tryz.f143 (Tryz.f143.body.getD .skip) (packT [(.list .str)]) n (argsV [] (()))
theorem F_spec_l6Kinds_eq (n : Nat)  : F_spec_l6Kinds n  =
    some ([([] : List Int), ([98, 111, 111, 108] : List Int), ([110, 117, 109] : List Int), ([116, 101, 120, 116] : List Int), ([114, 101, 102] : List Int), ([100, 101, 99] : List Int), ([97, 100, 100, 114] : List Int), ([116, 105, 109, 101] : List Int)] : List (List Int)) := by kernel_rfl
theorem S_spec_l6Kinds (n : Nat)  : F_spec_l6Kinds n  = some (T_spec_l6Kinds ) := (F_spec_l6Kinds_eq n ).trans rfl
theorem hcs_spec_l6Kinds : ∀ x ∈ cs_spec_l6Kinds, CtrOk Tryz.prog x := conOf_nil
theorem ok_spec_l6Kinds : CtrOk Tryz.prog (c_spec_l6Kinds) := by
  refine ctr_of_run (c := c_spec_l6Kinds) (by kernel_rfl) (by kernel_rfl : Tryz.prog.funcs[143]? = some Tryz.f143) (code := Tryz.f143.body.getD .skip) (by kernel_rfl) (by kernel_rfl) (by kernel_rfl) (A := A_spec_l6Kinds) (I := In_spec_l6Kinds) (hcs_spec_l6Kinds) ?_
  rintro ⟨u⟩ y hy
  exact ⟨0, (S_spec_l6Kinds 0 ).trans hy⟩

/-! ## spec.l11AtomKind (167) -/
noncomputable def P_spec_l11AtomKind (a0 : DAtom) : Option (List Int) :=
  bif decide (a0.1 = 4) then
    bif decide ((([114, 101, 102, 32] : List Int).length : Int) + (a0.2.2.2.length : Int) ≤ room) then
      some (([114, 101, 102, 32] : List Int) ++ a0.2.2.2)
    else none
  else
    bif inB a0.1 T_spec_l6Kinds.length then
      some (rd T_spec_l6Kinds a0.1 (Ty.dflt .str))
    else none
noncomputable def c_spec_l11AtomKind : Ctr := ⟨167, [TyAtom], [.str], fun x => P_spec_l11AtomKind x.1⟩
def A_spec_l11AtomKind : List (List Nat × Ann) := []
def In_spec_l11AtomKind : List (List Nat × Nat) := []
noncomputable def cs_spec_l11AtomKind : List Ctr := [c_spec_l6Kinds]
noncomputable def F_spec_l11AtomKind (n : Nat) (a0 : DAtom) : Option (List Int) := run Tryz.prog A_spec_l11AtomKind In_spec_l11AtomKind (conOf cs_spec_l11AtomKind) Tryz.f167 (Tryz.f167.body.getD .skip) (packT [.str]) n (argsV [TyAtom] (a0, ()))
theorem F_spec_l11AtomKind_eq (n : Nat) (a0 : DAtom) : F_spec_l11AtomKind n a0 =
    bif decide (a0.1 = 4) then
      bif decide ((([114, 101, 102, 32] : List Int).length : Int) + (a0.2.2.2.length : Int) ≤ room) then
        some (([114, 101, 102, 32] : List Int) ++ a0.2.2.2)
      else none
    else
      bif inB a0.1 T_spec_l6Kinds.length then
        some (rd T_spec_l6Kinds a0.1 (Ty.dflt .str))
      else none := by kernel_rfl
theorem S_spec_l11AtomKind (a0 : DAtom) {r : (List Int)} (h : P_spec_l11AtomKind a0 = some r) : Ev (fun n => F_spec_l11AtomKind n a0) r := by
  rw [P_spec_l11AtomKind] at h
  refine Ev.of_eq ?_ (fun n => F_spec_l11AtomKind_eq n a0)
  exact (Ev.ofBif h (fun h => (Ev.ofBif h (fun h => (Ev.ofSome h)) (fun h => (Ev.ofNone h)))) (fun h => (Ev.ofBif h (fun h => (Ev.ofSome h)) (fun h => (Ev.ofNone h)))))
theorem hcs_spec_l11AtomKind : ∀ x ∈ cs_spec_l11AtomKind, CtrOk Tryz.prog x := (conOf_cons ok_spec_l6Kinds conOf_nil)
theorem ok_spec_l11AtomKind : CtrOk Tryz.prog (c_spec_l11AtomKind) := by
  refine ctr_of_run (c := c_spec_l11AtomKind) (by kernel_rfl) (by kernel_rfl : Tryz.prog.funcs[167]? = some Tryz.f167) (code := Tryz.f167.body.getD .skip) (by kernel_rfl) (by kernel_rfl) (by kernel_rfl) (A := A_spec_l11AtomKind) (I := In_spec_l11AtomKind) (hcs_spec_l11AtomKind) ?_
  rintro ⟨a0, u⟩ y hy
  exact (S_spec_l11AtomKind a0 hy).get

/-! ## spec.FitsKind (93) -/
noncomputable def P_spec_FitsKind_0_9 (x1 : (List Int)) (x5 : DValue) : List DAtom → Option Bool
  | [] =>
      some (decide (x5.1 = 2))
  | e :: rest =>
      Option.bind (P_spec_l11AtomKind (e)) fun (y7 : (List Int)) =>
      bif !decide (y7 = x1) then
        some false
      else
        P_spec_FitsKind_0_9 x1 x5 rest
noncomputable def P_spec_FitsKind (a0 : DValue) (a1 : (List Int)) : Option Bool :=
  Option.bind (P_spec_GoodValue a0) fun (y1 : Bool) =>
  bif !(y1) then
    some false
  else
    Option.bind (P_spec_l11Head a1 ([115, 101, 116, 32] : List Int)) fun (y2 : Bool) =>
    bif !(y2) then
      bif decide (a0.1 = 1) then
        Option.bind (P_spec_l11AtomKind a0.2.1) fun (y3 : (List Int)) =>
        some (decide (y3 = a1))
      else
        some false
    else
      bif true && decide ((4 : Int) ≤ (a1.length : Int)) then
        Option.bind (P_spec_l3Has ([([98, 111, 111, 108] : List Int), ([110, 117, 109] : List Int), ([116, 101, 120, 116] : List Int), ([100, 101, 99] : List Int), ([97, 100, 100, 114] : List Int), ([116, 105, 109, 101] : List Int)] : List (List Int)) (cut a1 4 (a1.length : Int))) fun (y4 : Bool) =>
        bif !(y4) then
          Option.bind (P_spec_l11Head (cut a1 4 (a1.length : Int)) ([114, 101, 102, 32] : List Int)) fun (y5 : Bool) =>
          bif y5 then
            bif true && decide ((4 : Int) ≤ ((cut a1 4 (a1.length : Int)).length : Int)) then
              Option.bind (P_spec_GoodName (cut (cut a1 4 (a1.length : Int)) 4 ((cut a1 4 (a1.length : Int)).length : Int))) fun (y6 : Bool) =>
              bif !(y6) then
                some false
              else
                lenOk a0.2.2.1 (P_spec_FitsKind_0_9 (cut a1 4 (a1.length : Int)) a0 a0.2.2.1)
            else none
          else
            some false
        else
          lenOk a0.2.2.1 (P_spec_FitsKind_0_9 (cut a1 4 (a1.length : Int)) a0 a0.2.2.1)
      else none
noncomputable def c_spec_FitsKind : Ctr := ⟨93, [TyValue, .str], [.bool], fun x => P_spec_FitsKind x.1 x.2.1⟩
def A_spec_FitsKind : List (List Nat × Ann) := [([0, 9], [.keep 0 2, .keep 0 5, .keep 0 41, .keep 0 42, .keep 0 43, .boxd 0 2 TyValue])]
def In_spec_FitsKind : List (List Nat × Nat) := []
noncomputable def cs_spec_FitsKind : List Ctr := [c_spec_GoodValue, c_spec_l11Head, c_spec_l11AtomKind, c_spec_l3Has, c_spec_GoodName]
noncomputable def F_spec_FitsKind (n : Nat) (a0 : DValue) (a1 : (List Int)) : Option Bool := run Tryz.prog A_spec_FitsKind In_spec_FitsKind (conOf cs_spec_FitsKind) Tryz.f93 (Tryz.f93.body.getD .skip) (packT [.bool]) n (argsV [TyValue, .str] (a0, a1, ()))
noncomputable abbrev L_spec_FitsKind_0_9 (n : Nat) (x1 : (List Int)) (x2 : (List DAtom)) (x3 : Int) (x4 : Int) (x5 : DValue) : Option Bool := lam Tryz.prog A_spec_FitsKind In_spec_FitsKind (conOf cs_spec_FitsKind) Tryz.f93 (Tryz.f93.body.getD .skip) (packT [.bool]) n [0, 9] [.ptr 0 2 0, .d .str x1, .d (.list TyAtom) x2, .d I64 x3, .d I64 x4, .agg (explode TyValue x5)]
theorem F_spec_FitsKind_eq (n : Nat) (a0 : DValue) (a1 : (List Int)) : F_spec_FitsKind n a0 a1 =
    Option.bind (P_spec_GoodValue a0) fun (y1 : Bool) =>
    bif !(y1) then
      some false
    else
      Option.bind (P_spec_l11Head a1 ([115, 101, 116, 32] : List Int)) fun (y2 : Bool) =>
      bif !(y2) then
        bif decide (a0.1 = 1) then
          Option.bind (P_spec_l11AtomKind a0.2.1) fun (y3 : (List Int)) =>
          some (decide (y3 = a1))
        else
          some false
      else
        bif true && decide ((4 : Int) ≤ (a1.length : Int)) then
          Option.bind (P_spec_l3Has ([([98, 111, 111, 108] : List Int), ([110, 117, 109] : List Int), ([116, 101, 120, 116] : List Int), ([100, 101, 99] : List Int), ([97, 100, 100, 114] : List Int), ([116, 105, 109, 101] : List Int)] : List (List Int)) (cut a1 4 (a1.length : Int))) fun (y4 : Bool) =>
          bif !(y4) then
            Option.bind (P_spec_l11Head (cut a1 4 (a1.length : Int)) ([114, 101, 102, 32] : List Int)) fun (y5 : Bool) =>
            bif y5 then
              bif true && decide ((4 : Int) ≤ ((cut a1 4 (a1.length : Int)).length : Int)) then
                Option.bind (P_spec_GoodName (cut (cut a1 4 (a1.length : Int)) 4 ((cut a1 4 (a1.length : Int)).length : Int))) fun (y6 : Bool) =>
                bif !(y6) then
                  some false
                else
                  L_spec_FitsKind_0_9 n (cut a1 4 (a1.length : Int)) a0.2.2.1 (a0.2.2.1.length : Int) 0 a0
              else none
            else
              some false
          else
            L_spec_FitsKind_0_9 n (cut a1 4 (a1.length : Int)) a0.2.2.1 (a0.2.2.1.length : Int) 0 a0
        else none := by kernel_rfl
theorem L_spec_FitsKind_0_9_eq (n : Nat) (x1 : (List Int)) (x2 : (List DAtom)) (x3 : Int) (x4 : Int) (x5 : DValue) : L_spec_FitsKind_0_9 (n + 1) x1 x2 x3 x4 x5 =
    bif decide (x4 < x3) then
      bif inB x4 x2.length then
        Option.bind (P_spec_l11AtomKind (rd x2 x4 (Ty.dflt TyAtom))) fun (y7 : (List Int)) =>
        bif !decide (y7 = x1) then
          some false
        else
          L_spec_FitsKind_0_9 n x1 x2 x3 (IntKind.wrap .i64 (x4 + 1)) x5
      else none
    else
      some (decide (x5.1 = 2)) := by kernel_rfl
theorem S_spec_FitsKind_0_9 {x1 : (List Int)} {x2 : (List DAtom)} {x5 : DValue} (hl : x2.length ≤ maxLen) : ∀ (rest : List DAtom) (k : Nat) (r : Bool), rest = x2.drop k → P_spec_FitsKind_0_9 x1 x5 rest = some r → Ev (fun n => L_spec_FitsKind_0_9 n x1 x2 (x2.length : Int) (k : Int) x5) r := by
  intro rest
  induction rest with
  | nil =>
    intro k r hr h
    have hk := drop_nil hr
    rw [P_spec_FitsKind_0_9] at h
    refine Ev.step ?_ (fun n => L_spec_FitsKind_0_9_eq n x1 x2 (x2.length : Int) (k : Int) x5)
    rw [show decide ((k : Int) < (x2.length : Int)) = false from decide_eq_false (by omega)]
    exact Ev.neg rfl (Ev.ofSome h)
  | cons e rest ih =>
    intro k r hr h
    obtain ⟨hk, hx, hr2⟩ := drop_cons (d := (Ty.dflt TyAtom)) hr
    have hw := wrap_succ hl hk
    have ih2 : ∀ (r : Bool), P_spec_FitsKind_0_9 x1 x5 rest = some r → Ev (fun n => L_spec_FitsKind_0_9 n x1 x2 (x2.length : Int) (IntKind.wrap .i64 ((k : Int) + 1)) x5) r := by
      intro r h; rw [hw]; exact ih (k + 1) r hr2 h
    rw [P_spec_FitsKind_0_9] at h
    refine Ev.step ?_ (fun n => L_spec_FitsKind_0_9_eq n x1 x2 (x2.length : Int) (k : Int) x5)
    rw [show decide ((k : Int) < (x2.length : Int)) = true from decide_eq_true (by omega), inB_nat2 hk, hx]
    exact Ev.pos rfl (Ev.pos rfl (Ev.ofBind h fun y7 h => (Ev.ofBif h (fun h => (Ev.ofSome h)) (fun h => (ih2  _ h)))))
theorem S_spec_FitsKind (a0 : DValue) (a1 : (List Int)) {r : Bool} (h : P_spec_FitsKind a0 a1 = some r) : Ev (fun n => F_spec_FitsKind n a0 a1) r := by
  rw [P_spec_FitsKind] at h
  refine Ev.of_eq ?_ (fun n => F_spec_FitsKind_eq n a0 a1)
  exact (Ev.ofBind h fun y1 h => (Ev.ofBif h (fun h => (Ev.ofSome h)) (fun h => (Ev.ofBind h fun y2 h => (Ev.ofBif h (fun h => (Ev.ofBif h (fun h => (Ev.ofBind h fun y3 h => (Ev.ofSome h))) (fun h => (Ev.ofSome h)))) (fun h => (Ev.ofBif h (fun h => (Ev.ofBind h fun y4 h => (Ev.ofBif h (fun h => (Ev.ofBind h fun y5 h => (Ev.ofBif h (fun h => (Ev.ofBif h (fun h => (Ev.ofBind h fun y6 h => (Ev.ofBif h (fun h => (Ev.ofSome h)) (fun h => (Ev.ofLen h fun hl h => S_spec_FitsKind_0_9 hl _ (0 : Nat) _ rfl h))))) (fun h => (Ev.ofNone h)))) (fun h => (Ev.ofSome h))))) (fun h => (Ev.ofLen h fun hl h => S_spec_FitsKind_0_9 hl _ (0 : Nat) _ rfl h))))) (fun h => (Ev.ofNone h)))))))))
theorem hcs_spec_FitsKind : ∀ x ∈ cs_spec_FitsKind, CtrOk Tryz.prog x := (conOf_cons ok_spec_GoodValue (conOf_cons ok_spec_l11Head (conOf_cons ok_spec_l11AtomKind (conOf_cons ok_spec_l3Has (conOf_cons ok_spec_GoodName conOf_nil)))))
theorem ok_spec_FitsKind : CtrOk Tryz.prog (c_spec_FitsKind) := by
  refine ctr_of_run (c := c_spec_FitsKind) (by kernel_rfl) (by kernel_rfl : Tryz.prog.funcs[93]? = some Tryz.f93) (code := Tryz.f93.body.getD .skip) (by kernel_rfl) (by kernel_rfl) (by kernel_rfl) (A := A_spec_FitsKind) (I := In_spec_FitsKind) (hcs_spec_FitsKind) ?_
  rintro ⟨a0, a1, u⟩ y hy
  exact (S_spec_FitsKind a0 a1 hy).get

/-! ## spec.l11Thing (41) -/
noncomputable def P_spec_l11Thing_0_2 (x4 : DAtom) : List DThing → Option (DThing × Bool)
  | [] =>
      some (((0, 0, ([] : List Int), ([] : List Int)), [], [], []), false)
  | e :: rest =>
      bif @decide (((e).1) = x4) (Ty.decEq TyAtom ((e).1) x4) then
        some ((((e).1), ((e).2)), true)
      else
        P_spec_l11Thing_0_2 x4 rest
noncomputable def P_spec_l11Thing (a0 : (List DThing)) (a1 : DAtom) : Option (DThing × Bool) :=
  lenOk a0 (P_spec_l11Thing_0_2 a1 a0)
noncomputable def c_spec_l11Thing : Ctr := ⟨41, [(.list TyThing), TyAtom], [TyThing, .bool], fun x => P_spec_l11Thing x.1 x.2.1⟩
def A_spec_l11Thing : List (List Nat × Ann) := [([0, 2], [.keep 0 3, .keep 0 4, .keep 0 8, .keep 0 9, .keep 0 10, .boxd 0 3 TyAtom, .boxd 0 4 TyThing])]
def In_spec_l11Thing : List (List Nat × Nat) := []
noncomputable def cs_spec_l11Thing : List Ctr := []
noncomputable def F_spec_l11Thing (n : Nat) (a0 : (List DThing)) (a1 : DAtom) : Option (DThing × Bool) := run Tryz.prog A_spec_l11Thing In_spec_l11Thing (conOf cs_spec_l11Thing) Tryz.f41 (Tryz.f41.body.getD .skip) (packT [TyThing, .bool]) n (argsV [(.list TyThing), TyAtom] (a0, a1, ()))
noncomputable abbrev L_spec_l11Thing_0_2 (n : Nat) (x1 : (List DThing)) (x2 : Int) (x3 : Int) (x4 : DAtom) (x5 : DThing) : Option (DThing × Bool) := lam Tryz.prog A_spec_l11Thing In_spec_l11Thing (conOf cs_spec_l11Thing) Tryz.f41 (Tryz.f41.body.getD .skip) (packT [TyThing, .bool]) n [0, 2] [.ptr 0 3 0, .ptr 0 4 0, .d (.list TyThing) x1, .d I64 x2, .d I64 x3, .agg (explode TyAtom x4), .agg (explode TyThing x5)]
theorem F_spec_l11Thing_eq (n : Nat) (a0 : (List DThing)) (a1 : DAtom) : F_spec_l11Thing n a0 a1 =
    L_spec_l11Thing_0_2 n a0 (a0.length : Int) 0 a1 ((0, 0, ([] : List Int), ([] : List Int)), [], [], []) := by kernel_rfl
theorem L_spec_l11Thing_0_2_eq (n : Nat) (x1 : (List DThing)) (x2 : Int) (x3 : Int) (x4 : DAtom) (x5 : DThing) : L_spec_l11Thing_0_2 (n + 1) x1 x2 x3 x4 x5 =
    bif decide (x3 < x2) then
      bif inB x3 x1.length then
        bif @decide (((rd x1 x3 (Ty.dflt TyThing)).1) = x4) (Ty.decEq TyAtom ((rd x1 x3 (Ty.dflt TyThing)).1) x4) then
          some ((((rd x1 x3 (Ty.dflt TyThing)).1), ((rd x1 x3 (Ty.dflt TyThing)).2)), true)
        else
          L_spec_l11Thing_0_2 n x1 x2 (IntKind.wrap .i64 (x3 + 1)) x4 x5
      else none
    else
      some (((0, 0, ([] : List Int), ([] : List Int)), [], [], []), false) := by kernel_rfl
theorem S_spec_l11Thing_0_2 {x1 : (List DThing)} {x4 : DAtom} {x5 : DThing} (hl : x1.length ≤ maxLen) : ∀ (rest : List DThing) (k : Nat) (r : (DThing × Bool)), rest = x1.drop k → P_spec_l11Thing_0_2 x4 rest = some r → Ev (fun n => L_spec_l11Thing_0_2 n x1 (x1.length : Int) (k : Int) x4 x5) r := by
  intro rest
  induction rest with
  | nil =>
    intro k r hr h
    have hk := drop_nil hr
    rw [P_spec_l11Thing_0_2] at h
    refine Ev.step ?_ (fun n => L_spec_l11Thing_0_2_eq n x1 (x1.length : Int) (k : Int) x4 x5)
    rw [show decide ((k : Int) < (x1.length : Int)) = false from decide_eq_false (by omega)]
    exact Ev.neg rfl (Ev.ofSome h)
  | cons e rest ih =>
    intro k r hr h
    obtain ⟨hk, hx, hr2⟩ := drop_cons (d := (Ty.dflt TyThing)) hr
    have hw := wrap_succ hl hk
    have ih2 : ∀ (r : (DThing × Bool)), P_spec_l11Thing_0_2 x4 rest = some r → Ev (fun n => L_spec_l11Thing_0_2 n x1 (x1.length : Int) (IntKind.wrap .i64 ((k : Int) + 1)) x4 x5) r := by
      intro r h; rw [hw]; exact ih (k + 1) r hr2 h
    rw [P_spec_l11Thing_0_2] at h
    refine Ev.step ?_ (fun n => L_spec_l11Thing_0_2_eq n x1 (x1.length : Int) (k : Int) x4 x5)
    rw [show decide ((k : Int) < (x1.length : Int)) = true from decide_eq_true (by omega), inB_nat2 hk, hx]
    exact Ev.pos rfl (Ev.pos rfl (Ev.ofBif h (fun h => (Ev.ofSome h)) (fun h => (ih2  _ h))))
theorem S_spec_l11Thing (a0 : (List DThing)) (a1 : DAtom) {r : (DThing × Bool)} (h : P_spec_l11Thing a0 a1 = some r) : Ev (fun n => F_spec_l11Thing n a0 a1) r := by
  rw [P_spec_l11Thing] at h
  refine Ev.of_eq ?_ (fun n => F_spec_l11Thing_eq n a0 a1)
  exact (Ev.ofLen h fun hl h => S_spec_l11Thing_0_2 hl _ (0 : Nat) _ rfl h)
theorem hcs_spec_l11Thing : ∀ x ∈ cs_spec_l11Thing, CtrOk Tryz.prog x := conOf_nil
theorem ok_spec_l11Thing : CtrOk Tryz.prog (c_spec_l11Thing) := by
  refine ctr_of_run (c := c_spec_l11Thing) (by kernel_rfl) (by kernel_rfl : Tryz.prog.funcs[41]? = some Tryz.f41) (code := Tryz.f41.body.getD .skip) (by kernel_rfl) (by kernel_rfl) (by kernel_rfl) (A := A_spec_l11Thing) (I := In_spec_l11Thing) (hcs_spec_l11Thing) ?_
  rintro ⟨a0, a1, u⟩ y hy
  exact (S_spec_l11Thing a0 a1 hy).get

/-! ## spec.l11Typed (40) -/
noncomputable def P_spec_l11Typed_0_8 (K0 : Option Bool) (x1 : (List DThing)) : List DAtom → Option Bool
  | [] =>
      K0
  | e :: rest =>
      Option.bind (P_spec_l11Thing x1 (e)) fun (y3 : (DThing × Bool)) =>
      bif decide ((e).1 = 4) then
        bif !(y3.2) then
          some false
        else
          P_spec_l11Typed_0_8 K0 x1 rest
      else
        P_spec_l11Typed_0_8 K0 x1 rest
noncomputable def P_spec_l11Typed_0_16 (x1 : (List (List Int))) : List DAttrKind → Option Bool
  | [] =>
      some true
  | e :: rest =>
      bif ((e).2).2 then
        Option.bind (P_spec_l3Has x1 ((e).1)) fun (y4 : Bool) =>
        bif !(y4) then
          some false
        else
          P_spec_l11Typed_0_16 x1 rest
      else
        P_spec_l11Typed_0_16 x1 rest
noncomputable def P_spec_l11Typed_0_2 (x1 : (List DThing)) (x2 : (List DAttrKind)) (x3 : (List (List Int))) (x4 : (List DValue)) : List (List Int) → Nat → Option Bool
  | [], k =>
      lenOk x2 (P_spec_l11Typed_0_16 x3 x2)
  | e :: rest, k =>
      Option.bind (P_spec_l11Attr x2 (e)) fun (y1 : (DAttrKind × Bool)) =>
      bif !(y1.2) then
        some false
      else
        bif inB (k : Int) x4.length then
          Option.bind (P_spec_FitsKind (rd x4 (k : Int) (Ty.dflt TyValue)) y1.1.2.1) fun (y2 : Bool) =>
          bif !(y2) then
            some false
          else
            bif inB (k : Int) x4.length then
              bif inB (k : Int) x4.length then
                bif decide (((([(((rd x4 (k : Int) (Ty.dflt TyValue)).2).1)] : List DAtom).length : Int) + (((((rd x4 (k : Int) (Ty.dflt TyValue)).2).2).1).length : Int)) * 48 ≤ room) && decide ((([(((rd x4 (k : Int) (Ty.dflt TyValue)).2).1)] : List DAtom).length : Int) + (((((rd x4 (k : Int) (Ty.dflt TyValue)).2).2).1).length : Int) ≤ room) then
                  lenOk (([(((rd x4 (k : Int) (Ty.dflt TyValue)).2).1)] : List DAtom) ++ ((((rd x4 (k : Int) (Ty.dflt TyValue)).2).2).1)) (P_spec_l11Typed_0_8 (P_spec_l11Typed_0_2 x1 x2 x3 x4 rest (k + 1)) x1 (([(((rd x4 (k : Int) (Ty.dflt TyValue)).2).1)] : List DAtom) ++ ((((rd x4 (k : Int) (Ty.dflt TyValue)).2).2).1)))
                else none
              else none
            else none
        else none
noncomputable def P_spec_l11Typed (a0 : (List DThing)) (a1 : (List DAttrKind)) (a2 : (List (List Int))) (a3 : (List DValue)) : Option Bool :=
  lenOk a2 (P_spec_l11Typed_0_2 a0 a1 a2 a3 a2 0)
noncomputable def c_spec_l11Typed : Ctr := ⟨40, [(.list TyThing), (.list TyAttrKind), (.list .str), (.list TyValue)], [.bool], fun x => P_spec_l11Typed x.1 x.2.1 x.2.2.1 x.2.2.2.1⟩
def A_spec_l11Typed : List (List Nat × Ann) := [([0, 2], [.keep 0 0, .keep 0 1, .keep 0 2, .keep 0 3, .keep 0 19, .keep 0 20, .keep 0 21]), ([0, 8], [.keep 0 0, .keep 0 1, .keep 0 2, .keep 0 3, .keep 0 19, .keep 0 20, .keep 0 21, .own 0 55 TyAtom, .keep 0 56, .keep 0 57]), ([0, 16], [.keep 0 2, .keep 0 76, .keep 0 77, .keep 0 78])]
def In_spec_l11Typed : List (List Nat × Nat) := []
noncomputable def cs_spec_l11Typed : List Ctr := [c_spec_l11Attr, c_spec_FitsKind, c_spec_l11Thing, c_spec_l3Has]
noncomputable def F_spec_l11Typed (n : Nat) (a0 : (List DThing)) (a1 : (List DAttrKind)) (a2 : (List (List Int))) (a3 : (List DValue)) : Option Bool := run Tryz.prog A_spec_l11Typed In_spec_l11Typed (conOf cs_spec_l11Typed) Tryz.f40 (Tryz.f40.body.getD .skip) (packT [.bool]) n (argsV [(.list TyThing), (.list TyAttrKind), (.list .str), (.list TyValue)] (a0, a1, a2, a3, ()))
noncomputable abbrev L_spec_l11Typed_0_2 (n : Nat) (x1 : (List DThing)) (x2 : (List DAttrKind)) (x3 : (List (List Int))) (x4 : (List DValue)) (x5 : (List (List Int))) (x6 : Int) (x7 : Int) : Option Bool := lam Tryz.prog A_spec_l11Typed In_spec_l11Typed (conOf cs_spec_l11Typed) Tryz.f40 (Tryz.f40.body.getD .skip) (packT [.bool]) n [0, 2] [.d (.list TyThing) x1, .d (.list TyAttrKind) x2, .d (.list .str) x3, .d (.list TyValue) x4, .d (.list .str) x5, .d I64 x6, .d I64 x7]
noncomputable abbrev L_spec_l11Typed_0_8 (n : Nat) (x1 : (List DThing)) (x2 : (List DAttrKind)) (x3 : (List (List Int))) (x4 : (List DValue)) (x5 : (List (List Int))) (x6 : Int) (x7 : Int) (x8 : (List DAtom)) (x9 : Int) (x10 : Int) : Option Bool := lam Tryz.prog A_spec_l11Typed In_spec_l11Typed (conOf cs_spec_l11Typed) Tryz.f40 (Tryz.f40.body.getD .skip) (packT [.bool]) n [0, 8] [.d (.list TyThing) x1, .d (.list TyAttrKind) x2, .d (.list .str) x3, .d (.list TyValue) x4, .d (.list .str) x5, .d I64 x6, .d I64 x7, .own 0 TyAtom x8, .d I64 x9, .d I64 x10]
noncomputable abbrev L_spec_l11Typed_0_16 (n : Nat) (x1 : (List (List Int))) (x2 : (List DAttrKind)) (x3 : Int) (x4 : Int) : Option Bool := lam Tryz.prog A_spec_l11Typed In_spec_l11Typed (conOf cs_spec_l11Typed) Tryz.f40 (Tryz.f40.body.getD .skip) (packT [.bool]) n [0, 16] [.d (.list .str) x1, .d (.list TyAttrKind) x2, .d I64 x3, .d I64 x4]
theorem F_spec_l11Typed_eq (n : Nat) (a0 : (List DThing)) (a1 : (List DAttrKind)) (a2 : (List (List Int))) (a3 : (List DValue)) : F_spec_l11Typed n a0 a1 a2 a3 =
    L_spec_l11Typed_0_2 n a0 a1 a2 a3 a2 (a2.length : Int) 0 := by kernel_rfl
theorem L_spec_l11Typed_0_2_eq (n : Nat) (x1 : (List DThing)) (x2 : (List DAttrKind)) (x3 : (List (List Int))) (x4 : (List DValue)) (x5 : (List (List Int))) (x6 : Int) (x7 : Int) : L_spec_l11Typed_0_2 (n + 1) x1 x2 x3 x4 x5 x6 x7 =
    bif decide (x7 < x6) then
      bif inB x7 x5.length then
        Option.bind (P_spec_l11Attr x2 (rd x5 x7 (Ty.dflt .str))) fun (y1 : (DAttrKind × Bool)) =>
        bif !(y1.2) then
          some false
        else
          bif inB x7 x4.length then
            Option.bind (P_spec_FitsKind (rd x4 x7 (Ty.dflt TyValue)) y1.1.2.1) fun (y2 : Bool) =>
            bif !(y2) then
              some false
            else
              bif inB x7 x4.length then
                bif inB x7 x4.length then
                  bif decide (((([(((rd x4 x7 (Ty.dflt TyValue)).2).1)] : List DAtom).length : Int) + (((((rd x4 x7 (Ty.dflt TyValue)).2).2).1).length : Int)) * 48 ≤ room) && decide ((([(((rd x4 x7 (Ty.dflt TyValue)).2).1)] : List DAtom).length : Int) + (((((rd x4 x7 (Ty.dflt TyValue)).2).2).1).length : Int) ≤ room) then
                    L_spec_l11Typed_0_8 n x1 x2 x3 x4 x5 x6 x7 (([(((rd x4 x7 (Ty.dflt TyValue)).2).1)] : List DAtom) ++ ((((rd x4 x7 (Ty.dflt TyValue)).2).2).1)) ((([(((rd x4 x7 (Ty.dflt TyValue)).2).1)] : List DAtom) ++ ((((rd x4 x7 (Ty.dflt TyValue)).2).2).1)).length : Int) 0
                  else none
                else none
              else none
          else none
      else none
    else
      L_spec_l11Typed_0_16 n x3 x2 (x2.length : Int) 0 := by kernel_rfl
theorem L_spec_l11Typed_0_8_eq (n : Nat) (x1 : (List DThing)) (x2 : (List DAttrKind)) (x3 : (List (List Int))) (x4 : (List DValue)) (x5 : (List (List Int))) (x6 : Int) (x7 : Int) (x8 : (List DAtom)) (x9 : Int) (x10 : Int) : L_spec_l11Typed_0_8 (n + 1) x1 x2 x3 x4 x5 x6 x7 x8 x9 x10 =
    bif decide (x10 < x9) then
      bif inB x10 x8.length then
        Option.bind (P_spec_l11Thing x1 (rd x8 x10 (Ty.dflt TyAtom))) fun (y3 : (DThing × Bool)) =>
        bif decide ((rd x8 x10 (Ty.dflt TyAtom)).1 = 4) then
          bif !(y3.2) then
            some false
          else
            L_spec_l11Typed_0_8 n x1 x2 x3 x4 x5 x6 x7 x8 x9 (IntKind.wrap .i64 (x10 + 1))
        else
          L_spec_l11Typed_0_8 n x1 x2 x3 x4 x5 x6 x7 x8 x9 (IntKind.wrap .i64 (x10 + 1))
      else none
    else
      L_spec_l11Typed_0_2 n x1 x2 x3 x4 x5 x6 (IntKind.wrap .i64 (x7 + 1)) := by kernel_rfl
theorem L_spec_l11Typed_0_16_eq (n : Nat) (x1 : (List (List Int))) (x2 : (List DAttrKind)) (x3 : Int) (x4 : Int) : L_spec_l11Typed_0_16 (n + 1) x1 x2 x3 x4 =
    bif decide (x4 < x3) then
      bif inB x4 x2.length then
        bif ((rd x2 x4 (Ty.dflt TyAttrKind)).2).2 then
          Option.bind (P_spec_l3Has x1 ((rd x2 x4 (Ty.dflt TyAttrKind)).1)) fun (y4 : Bool) =>
          bif !(y4) then
            some false
          else
            L_spec_l11Typed_0_16 n x1 x2 x3 (IntKind.wrap .i64 (x4 + 1))
        else
          L_spec_l11Typed_0_16 n x1 x2 x3 (IntKind.wrap .i64 (x4 + 1))
      else none
    else
      some true := by kernel_rfl
theorem S_spec_l11Typed_0_8 {K0 : Option Bool} {x1 : (List DThing)} {x2 : (List DAttrKind)} {x3 : (List (List Int))} {x4 : (List DValue)} {x6 : Int} {x7 : Int} {x8 : (List DAtom)} (hl : x8.length ≤ maxLen) (hK0 : ∀  (r : Bool), K0 = some r → Ev (fun n => L_spec_l11Typed_0_2 n x1 x2 x3 x4 x3 x6 (IntKind.wrap .i64 (x7 + 1))) r) : ∀ (rest : List DAtom) (k : Nat) (r : Bool), rest = x8.drop k → P_spec_l11Typed_0_8 K0 x1 rest = some r → Ev (fun n => L_spec_l11Typed_0_8 n x1 x2 x3 x4 x3 x6 x7 x8 (x8.length : Int) (k : Int)) r := by
  intro rest
  induction rest with
  | nil =>
    intro k r hr h
    have hk := drop_nil hr
    rw [P_spec_l11Typed_0_8] at h
    refine Ev.step ?_ (fun n => L_spec_l11Typed_0_8_eq n x1 x2 x3 x4 x3 x6 x7 x8 (x8.length : Int) (k : Int))
    rw [show decide ((k : Int) < (x8.length : Int)) = false from decide_eq_false (by omega)]
    exact Ev.neg rfl (hK0  _ h)
  | cons e rest ih =>
    intro k r hr h
    obtain ⟨hk, hx, hr2⟩ := drop_cons (d := (Ty.dflt TyAtom)) hr
    have hw := wrap_succ hl hk
    have ih2 : ∀ (r : Bool), P_spec_l11Typed_0_8 K0 x1 rest = some r → Ev (fun n => L_spec_l11Typed_0_8 n x1 x2 x3 x4 x3 x6 x7 x8 (x8.length : Int) (IntKind.wrap .i64 ((k : Int) + 1))) r := by
      intro r h; rw [hw]; exact ih (k + 1) r hr2 h
    rw [P_spec_l11Typed_0_8] at h
    refine Ev.step ?_ (fun n => L_spec_l11Typed_0_8_eq n x1 x2 x3 x4 x3 x6 x7 x8 (x8.length : Int) (k : Int))
    rw [show decide ((k : Int) < (x8.length : Int)) = true from decide_eq_true (by omega), inB_nat2 hk, hx]
    exact Ev.pos rfl (Ev.pos rfl (Ev.ofBind h fun y3 h => (Ev.ofBif h (fun h => (Ev.ofBif h (fun h => (Ev.ofSome h)) (fun h => (ih2  _ h)))) (fun h => (ih2  _ h)))))
theorem S_spec_l11Typed_0_16 {x1 : (List (List Int))} {x2 : (List DAttrKind)} (hl : x2.length ≤ maxLen) : ∀ (rest : List DAttrKind) (k : Nat) (r : Bool), rest = x2.drop k → P_spec_l11Typed_0_16 x1 rest = some r → Ev (fun n => L_spec_l11Typed_0_16 n x1 x2 (x2.length : Int) (k : Int)) r := by
  intro rest
  induction rest with
  | nil =>
    intro k r hr h
    have hk := drop_nil hr
    rw [P_spec_l11Typed_0_16] at h
    refine Ev.step ?_ (fun n => L_spec_l11Typed_0_16_eq n x1 x2 (x2.length : Int) (k : Int))
    rw [show decide ((k : Int) < (x2.length : Int)) = false from decide_eq_false (by omega)]
    exact Ev.neg rfl (Ev.ofSome h)
  | cons e rest ih =>
    intro k r hr h
    obtain ⟨hk, hx, hr2⟩ := drop_cons (d := (Ty.dflt TyAttrKind)) hr
    have hw := wrap_succ hl hk
    have ih2 : ∀ (r : Bool), P_spec_l11Typed_0_16 x1 rest = some r → Ev (fun n => L_spec_l11Typed_0_16 n x1 x2 (x2.length : Int) (IntKind.wrap .i64 ((k : Int) + 1))) r := by
      intro r h; rw [hw]; exact ih (k + 1) r hr2 h
    rw [P_spec_l11Typed_0_16] at h
    refine Ev.step ?_ (fun n => L_spec_l11Typed_0_16_eq n x1 x2 (x2.length : Int) (k : Int))
    rw [show decide ((k : Int) < (x2.length : Int)) = true from decide_eq_true (by omega), inB_nat2 hk, hx]
    exact Ev.pos rfl (Ev.pos rfl (Ev.ofBif h (fun h => (Ev.ofBind h fun y4 h => (Ev.ofBif h (fun h => (Ev.ofSome h)) (fun h => (ih2  _ h))))) (fun h => (ih2  _ h))))
theorem S_spec_l11Typed_0_2 {x1 : (List DThing)} {x2 : (List DAttrKind)} {x3 : (List (List Int))} {x4 : (List DValue)} (hl : x3.length ≤ maxLen) : ∀ (rest : List (List Int)) (k : Nat) (r : Bool), rest = x3.drop k → P_spec_l11Typed_0_2 x1 x2 x3 x4 rest k = some r → Ev (fun n => L_spec_l11Typed_0_2 n x1 x2 x3 x4 x3 (x3.length : Int) (k : Int)) r := by
  intro rest
  induction rest with
  | nil =>
    intro k r hr h
    have hk := drop_nil hr
    rw [P_spec_l11Typed_0_2] at h
    refine Ev.step ?_ (fun n => L_spec_l11Typed_0_2_eq n x1 x2 x3 x4 x3 (x3.length : Int) (k : Int))
    rw [show decide ((k : Int) < (x3.length : Int)) = false from decide_eq_false (by omega)]
    exact Ev.neg rfl (Ev.ofLen h fun hl h => S_spec_l11Typed_0_16 hl _ (0 : Nat) _ rfl h)
  | cons e rest ih =>
    intro k r hr h
    obtain ⟨hk, hx, hr2⟩ := drop_cons (d := (Ty.dflt .str)) hr
    have hw := wrap_succ hl hk
    have ih2 : ∀ (r : Bool), P_spec_l11Typed_0_2 x1 x2 x3 x4 rest (k + 1) = some r → Ev (fun n => L_spec_l11Typed_0_2 n x1 x2 x3 x4 x3 (x3.length : Int) (IntKind.wrap .i64 ((k : Int) + 1))) r := by
      intro r h; rw [hw]; exact ih (k + 1) r hr2 h
    rw [P_spec_l11Typed_0_2] at h
    refine Ev.step ?_ (fun n => L_spec_l11Typed_0_2_eq n x1 x2 x3 x4 x3 (x3.length : Int) (k : Int))
    rw [show decide ((k : Int) < (x3.length : Int)) = true from decide_eq_true (by omega), inB_nat2 hk, hx]
    exact Ev.pos rfl (Ev.pos rfl (Ev.ofBind h fun y1 h => (Ev.ofBif h (fun h => (Ev.ofSome h)) (fun h => (Ev.ofBif h (fun h => (Ev.ofBind h fun y2 h => (Ev.ofBif h (fun h => (Ev.ofSome h)) (fun h => (Ev.ofBif h (fun h => (Ev.ofBif h (fun h => (Ev.ofBif h (fun h => (Ev.ofLen h fun hl h => S_spec_l11Typed_0_8 hl ih2 _ (0 : Nat) _ rfl h)) (fun h => (Ev.ofNone h)))) (fun h => (Ev.ofNone h)))) (fun h => (Ev.ofNone h))))))) (fun h => (Ev.ofNone h)))))))
theorem S_spec_l11Typed (a0 : (List DThing)) (a1 : (List DAttrKind)) (a2 : (List (List Int))) (a3 : (List DValue)) {r : Bool} (h : P_spec_l11Typed a0 a1 a2 a3 = some r) : Ev (fun n => F_spec_l11Typed n a0 a1 a2 a3) r := by
  rw [P_spec_l11Typed] at h
  refine Ev.of_eq ?_ (fun n => F_spec_l11Typed_eq n a0 a1 a2 a3)
  exact (Ev.ofLen h fun hl h => S_spec_l11Typed_0_2 hl _ (0 : Nat) _ rfl h)
theorem hcs_spec_l11Typed : ∀ x ∈ cs_spec_l11Typed, CtrOk Tryz.prog x := (conOf_cons ok_spec_l11Attr (conOf_cons ok_spec_FitsKind (conOf_cons ok_spec_l11Thing (conOf_cons ok_spec_l3Has conOf_nil))))
theorem ok_spec_l11Typed : CtrOk Tryz.prog (c_spec_l11Typed) := by
  refine ctr_of_run (c := c_spec_l11Typed) (by kernel_rfl) (by kernel_rfl : Tryz.prog.funcs[40]? = some Tryz.f40) (code := Tryz.f40.body.getD .skip) (by kernel_rfl) (by kernel_rfl) (by kernel_rfl) (A := A_spec_l11Typed) (I := In_spec_l11Typed) (hcs_spec_l11Typed) ?_
  rintro ⟨a0, a1, a2, a3, u⟩ y hy
  exact (S_spec_l11Typed a0 a1 a2 a3 hy).get

/-! ## spec.l11Action (43) -/
noncomputable def P_spec_l11Action_0_2 (x1 : (List Int)) : List DActionType → Option (DActionType × Bool)
  | [] =>
      some ((([] : List Int), [], [], []), false)
  | e :: rest =>
      bif decide ((e).1 = x1) then
        some ((e), true)
      else
        P_spec_l11Action_0_2 x1 rest
noncomputable def P_spec_l11Action (a0 : DPolSchema) (a1 : (List Int)) : Option (DActionType × Bool) :=
  lenOk a0.2 (P_spec_l11Action_0_2 a1 a0.2)
noncomputable def c_spec_l11Action : Ctr := ⟨43, [TyPolSchema, .str], [TyActionType, .bool], fun x => P_spec_l11Action x.1 x.2.1⟩
def A_spec_l11Action : List (List Nat × Ann) := [([0, 2], [.keep 0 1, .keep 0 4, .keep 0 9, .keep 0 10, .keep 0 11, .boxd 0 4 TyActionType])]
def In_spec_l11Action : List (List Nat × Nat) := []
noncomputable def cs_spec_l11Action : List Ctr := []
noncomputable def F_spec_l11Action (n : Nat) (a0 : DPolSchema) (a1 : (List Int)) : Option (DActionType × Bool) := run Tryz.prog A_spec_l11Action In_spec_l11Action (conOf cs_spec_l11Action) Tryz.f43 (Tryz.f43.body.getD .skip) (packT [TyActionType, .bool]) n (argsV [TyPolSchema, .str] (a0, a1, ()))
noncomputable abbrev L_spec_l11Action_0_2 (n : Nat) (x1 : (List Int)) (x2 : (List DActionType)) (x3 : Int) (x4 : Int) (x5 : DActionType) : Option (DActionType × Bool) := lam Tryz.prog A_spec_l11Action In_spec_l11Action (conOf cs_spec_l11Action) Tryz.f43 (Tryz.f43.body.getD .skip) (packT [TyActionType, .bool]) n [0, 2] [.d .str x1, .ptr 0 4 0, .d (.list TyActionType) x2, .d I64 x3, .d I64 x4, .agg (explode TyActionType x5)]
theorem F_spec_l11Action_eq (n : Nat) (a0 : DPolSchema) (a1 : (List Int)) : F_spec_l11Action n a0 a1 =
    L_spec_l11Action_0_2 n a1 a0.2 (a0.2.length : Int) 0 (([] : List Int), [], [], []) := by kernel_rfl
theorem L_spec_l11Action_0_2_eq (n : Nat) (x1 : (List Int)) (x2 : (List DActionType)) (x3 : Int) (x4 : Int) (x5 : DActionType) : L_spec_l11Action_0_2 (n + 1) x1 x2 x3 x4 x5 =
    bif decide (x4 < x3) then
      bif inB x4 x2.length then
        bif decide ((rd x2 x4 (Ty.dflt TyActionType)).1 = x1) then
          some ((rd x2 x4 (Ty.dflt TyActionType)), true)
        else
          L_spec_l11Action_0_2 n x1 x2 x3 (IntKind.wrap .i64 (x4 + 1)) x5
      else none
    else
      some ((([] : List Int), [], [], []), false) := by kernel_rfl
theorem S_spec_l11Action_0_2 {x1 : (List Int)} {x2 : (List DActionType)} {x5 : DActionType} (hl : x2.length ≤ maxLen) : ∀ (rest : List DActionType) (k : Nat) (r : (DActionType × Bool)), rest = x2.drop k → P_spec_l11Action_0_2 x1 rest = some r → Ev (fun n => L_spec_l11Action_0_2 n x1 x2 (x2.length : Int) (k : Int) x5) r := by
  intro rest
  induction rest with
  | nil =>
    intro k r hr h
    have hk := drop_nil hr
    rw [P_spec_l11Action_0_2] at h
    refine Ev.step ?_ (fun n => L_spec_l11Action_0_2_eq n x1 x2 (x2.length : Int) (k : Int) x5)
    rw [show decide ((k : Int) < (x2.length : Int)) = false from decide_eq_false (by omega)]
    exact Ev.neg rfl (Ev.ofSome h)
  | cons e rest ih =>
    intro k r hr h
    obtain ⟨hk, hx, hr2⟩ := drop_cons (d := (Ty.dflt TyActionType)) hr
    have hw := wrap_succ hl hk
    have ih2 : ∀ (r : (DActionType × Bool)), P_spec_l11Action_0_2 x1 rest = some r → Ev (fun n => L_spec_l11Action_0_2 n x1 x2 (x2.length : Int) (IntKind.wrap .i64 ((k : Int) + 1)) x5) r := by
      intro r h; rw [hw]; exact ih (k + 1) r hr2 h
    rw [P_spec_l11Action_0_2] at h
    refine Ev.step ?_ (fun n => L_spec_l11Action_0_2_eq n x1 x2 (x2.length : Int) (k : Int) x5)
    rw [show decide ((k : Int) < (x2.length : Int)) = true from decide_eq_true (by omega), inB_nat2 hk, hx]
    exact Ev.pos rfl (Ev.pos rfl (Ev.ofBif h (fun h => (Ev.ofSome h)) (fun h => (ih2  _ h))))
theorem S_spec_l11Action (a0 : DPolSchema) (a1 : (List Int)) {r : (DActionType × Bool)} (h : P_spec_l11Action a0 a1 = some r) : Ev (fun n => F_spec_l11Action n a0 a1) r := by
  rw [P_spec_l11Action] at h
  refine Ev.of_eq ?_ (fun n => F_spec_l11Action_eq n a0 a1)
  exact (Ev.ofLen h fun hl h => S_spec_l11Action_0_2 hl _ (0 : Nat) _ rfl h)
theorem hcs_spec_l11Action : ∀ x ∈ cs_spec_l11Action, CtrOk Tryz.prog x := conOf_nil
theorem ok_spec_l11Action : CtrOk Tryz.prog (c_spec_l11Action) := by
  refine ctr_of_run (c := c_spec_l11Action) (by kernel_rfl) (by kernel_rfl : Tryz.prog.funcs[43]? = some Tryz.f43) (code := Tryz.f43.body.getD .skip) (by kernel_rfl) (by kernel_rfl) (by kernel_rfl) (A := A_spec_l11Action) (I := In_spec_l11Action) (hcs_spec_l11Action) ?_
  rintro ⟨a0, a1, u⟩ y hy
  exact (S_spec_l11Action a0 a1 hy).get

/-! ## spec.GoodWorld (10) -/
noncomputable def P_spec_GoodWorld_0_10 (K0 : Option Bool) (x1 : (List DThing)) (x10 : DThingType) : List DAtom → Option Bool
  | [] =>
      K0
  | e :: rest =>
      Option.bind (P_spec_l11Thing x1 (e)) fun (y6 : (DThing × Bool)) =>
      bif !(y6.2) then
        some false
      else
        Option.bind (P_spec_l3Has x10.2.1 ((((e).2).2).2)) fun (y7 : Bool) =>
        bif !(y7) then
          some false
        else
          P_spec_GoodWorld_0_10 K0 x1 x10 rest
noncomputable def P_spec_GoodWorld_0_4 (x1 : (List DThing)) (x5 : DPolSchema) (x6 : DRequest) : List DThing → Option Bool
  | [] =>
      Option.bind (P_spec_l11Action x5 x6.2.1.2.2.1) fun (y8 : (DActionType × Bool)) =>
      Option.bind (P_spec_l11Thing x1 x6.1) fun (y9 : (DThing × Bool)) =>
      Option.bind (P_spec_l11Thing x1 x6.2.2.1) fun (y10 : (DThing × Bool)) =>
      bif y8.2 then
        bif y9.2 then
          bif y10.2 then
            bif decide (x6.2.1.2.2.2 = ([65, 99, 116, 105, 111, 110] : List Int)) then
              Option.bind (P_spec_l3Has y8.1.2.1 x6.1.2.2.2) fun (y11 : Bool) =>
              bif y11 then
                Option.bind (P_spec_l3Has y8.1.2.2.1 x6.2.2.1.2.2.2) fun (y12 : Bool) =>
                bif y12 then
                  Option.bind (P_spec_l11Typed x1 y8.1.2.2.2 x6.2.2.2.1 x6.2.2.2.2) fun (y13 : Bool) =>
                  some y13
                else
                  some false
              else
                some false
            else
              some false
          else
            some false
        else
          some false
      else
        some false
  | e :: rest =>
      Option.bind (P_spec_l11ThingType x5 (((((e).1).2).2).2)) fun (y4 : (DThingType × Bool)) =>
      bif !(y4.2) then
        some false
      else
        Option.bind (P_spec_l11Typed x1 y4.1.2.2 ((((e).2).2).1) ((((e).2).2).2)) fun (y5 : Bool) =>
        bif !(y5) then
          some false
        else
          lenOk (((e).2).1) (P_spec_GoodWorld_0_10 (P_spec_GoodWorld_0_4 x1 x5 x6 rest) x1 y4.1 (((e).2).1))
noncomputable def P_spec_GoodWorld (a0 : DPolSchema) (a1 : (List DThing)) (a2 : DRequest) : Option Bool :=
  Option.bind (P_spec_GoodPolSchema a0) fun (y1 : Bool) =>
  bif !(y1) then
    some false
  else
    Option.bind (P_spec_GoodThings a1) fun (y2 : Bool) =>
    bif !(y2) then
      some false
    else
      Option.bind (P_spec_GoodRequest a2) fun (y3 : Bool) =>
      bif !(y3) then
        some false
      else
        lenOk a1 (P_spec_GoodWorld_0_4 a1 a0 a2 a1)
noncomputable def c_spec_GoodWorld : Ctr := ⟨10, [TyPolSchema, (.list TyThing), TyRequest], [.bool], fun x => P_spec_GoodWorld x.1 x.2.1 x.2.2.1⟩
def A_spec_GoodWorld : List (List Nat × Ann) := [([0, 4], [.keep 0 1, .keep 0 3, .keep 0 5, .keep 0 34, .keep 0 35, .keep 0 36, .boxd 0 3 TyPolSchema, .boxd 0 5 TyRequest]), ([0, 10], [.keep 0 1, .keep 0 3, .keep 0 5, .keep 0 9, .keep 0 34, .keep 0 35, .keep 0 36, .keep 0 62, .keep 0 63, .keep 0 64, .boxd 0 3 TyPolSchema, .boxd 0 5 TyRequest, .boxd 0 9 TyThingType])]
def In_spec_GoodWorld : List (List Nat × Nat) := []
noncomputable def cs_spec_GoodWorld : List Ctr := [c_spec_GoodPolSchema, c_spec_GoodThings, c_spec_GoodRequest, c_spec_l11ThingType, c_spec_l11Typed, c_spec_l11Thing, c_spec_l3Has, c_spec_l11Action]
noncomputable def F_spec_GoodWorld (n : Nat) (a0 : DPolSchema) (a1 : (List DThing)) (a2 : DRequest) : Option Bool := run Tryz.prog A_spec_GoodWorld In_spec_GoodWorld (conOf cs_spec_GoodWorld) Tryz.f10 (Tryz.f10.body.getD .skip) (packT [.bool]) n (argsV [TyPolSchema, (.list TyThing), TyRequest] (a0, a1, a2, ()))
noncomputable abbrev L_spec_GoodWorld_0_4 (n : Nat) (x1 : (List DThing)) (x2 : (List DThing)) (x3 : Int) (x4 : Int) (x5 : DPolSchema) (x6 : DRequest) : Option Bool := lam Tryz.prog A_spec_GoodWorld In_spec_GoodWorld (conOf cs_spec_GoodWorld) Tryz.f10 (Tryz.f10.body.getD .skip) (packT [.bool]) n [0, 4] [.d (.list TyThing) x1, .ptr 0 3 0, .ptr 0 5 0, .d (.list TyThing) x2, .d I64 x3, .d I64 x4, .agg (explode TyPolSchema x5), .agg (explode TyRequest x6)]
noncomputable abbrev L_spec_GoodWorld_0_10 (n : Nat) (x1 : (List DThing)) (x2 : (List DThing)) (x3 : Int) (x4 : Int) (x5 : (List DAtom)) (x6 : Int) (x7 : Int) (x8 : DPolSchema) (x9 : DRequest) (x10 : DThingType) : Option Bool := lam Tryz.prog A_spec_GoodWorld In_spec_GoodWorld (conOf cs_spec_GoodWorld) Tryz.f10 (Tryz.f10.body.getD .skip) (packT [.bool]) n [0, 10] [.d (.list TyThing) x1, .ptr 0 3 0, .ptr 0 5 0, .ptr 0 9 0, .d (.list TyThing) x2, .d I64 x3, .d I64 x4, .d (.list TyAtom) x5, .d I64 x6, .d I64 x7, .agg (explode TyPolSchema x8), .agg (explode TyRequest x9), .agg (explode TyThingType x10)]
theorem F_spec_GoodWorld_eq (n : Nat) (a0 : DPolSchema) (a1 : (List DThing)) (a2 : DRequest) : F_spec_GoodWorld n a0 a1 a2 =
    Option.bind (P_spec_GoodPolSchema a0) fun (y1 : Bool) =>
    bif !(y1) then
      some false
    else
      Option.bind (P_spec_GoodThings a1) fun (y2 : Bool) =>
      bif !(y2) then
        some false
      else
        Option.bind (P_spec_GoodRequest a2) fun (y3 : Bool) =>
        bif !(y3) then
          some false
        else
          L_spec_GoodWorld_0_4 n a1 a1 (a1.length : Int) 0 a0 a2 := by kernel_rfl
theorem L_spec_GoodWorld_0_4_eq (n : Nat) (x1 : (List DThing)) (x2 : (List DThing)) (x3 : Int) (x4 : Int) (x5 : DPolSchema) (x6 : DRequest) : L_spec_GoodWorld_0_4 (n + 1) x1 x2 x3 x4 x5 x6 =
    bif decide (x4 < x3) then
      bif inB x4 x2.length then
        Option.bind (P_spec_l11ThingType x5 (((((rd x2 x4 (Ty.dflt TyThing)).1).2).2).2)) fun (y4 : (DThingType × Bool)) =>
        bif !(y4.2) then
          some false
        else
          Option.bind (P_spec_l11Typed x1 y4.1.2.2 ((((rd x2 x4 (Ty.dflt TyThing)).2).2).1) ((((rd x2 x4 (Ty.dflt TyThing)).2).2).2)) fun (y5 : Bool) =>
          bif !(y5) then
            some false
          else
            L_spec_GoodWorld_0_10 n x1 x2 x3 x4 (((rd x2 x4 (Ty.dflt TyThing)).2).1) ((((rd x2 x4 (Ty.dflt TyThing)).2).1).length : Int) 0 x5 x6 y4.1
      else none
    else
      Option.bind (P_spec_l11Action x5 x6.2.1.2.2.1) fun (y8 : (DActionType × Bool)) =>
      Option.bind (P_spec_l11Thing x1 x6.1) fun (y9 : (DThing × Bool)) =>
      Option.bind (P_spec_l11Thing x1 x6.2.2.1) fun (y10 : (DThing × Bool)) =>
      bif y8.2 then
        bif y9.2 then
          bif y10.2 then
            bif decide (x6.2.1.2.2.2 = ([65, 99, 116, 105, 111, 110] : List Int)) then
              Option.bind (P_spec_l3Has y8.1.2.1 x6.1.2.2.2) fun (y11 : Bool) =>
              bif y11 then
                Option.bind (P_spec_l3Has y8.1.2.2.1 x6.2.2.1.2.2.2) fun (y12 : Bool) =>
                bif y12 then
                  Option.bind (P_spec_l11Typed x1 y8.1.2.2.2 x6.2.2.2.1 x6.2.2.2.2) fun (y13 : Bool) =>
                  some y13
                else
                  some false
              else
                some false
            else
              some false
          else
            some false
        else
          some false
      else
        some false := by kernel_rfl
theorem L_spec_GoodWorld_0_10_eq (n : Nat) (x1 : (List DThing)) (x2 : (List DThing)) (x3 : Int) (x4 : Int) (x5 : (List DAtom)) (x6 : Int) (x7 : Int) (x8 : DPolSchema) (x9 : DRequest) (x10 : DThingType) : L_spec_GoodWorld_0_10 (n + 1) x1 x2 x3 x4 x5 x6 x7 x8 x9 x10 =
    bif decide (x7 < x6) then
      bif inB x7 x5.length then
        Option.bind (P_spec_l11Thing x1 (rd x5 x7 (Ty.dflt TyAtom))) fun (y6 : (DThing × Bool)) =>
        bif !(y6.2) then
          some false
        else
          Option.bind (P_spec_l3Has x10.2.1 ((((rd x5 x7 (Ty.dflt TyAtom)).2).2).2)) fun (y7 : Bool) =>
          bif !(y7) then
            some false
          else
            L_spec_GoodWorld_0_10 n x1 x2 x3 x4 x5 x6 (IntKind.wrap .i64 (x7 + 1)) x8 x9 x10
      else none
    else
      L_spec_GoodWorld_0_4 n x1 x2 x3 (IntKind.wrap .i64 (x4 + 1)) x8 x9 := by kernel_rfl
theorem S_spec_GoodWorld_0_10 {K0 : Option Bool} {x1 : (List DThing)} {x3 : Int} {x4 : Int} {x5 : (List DAtom)} {x8 : DPolSchema} {x9 : DRequest} {x10 : DThingType} (hl : x5.length ≤ maxLen) (hK0 : ∀  (r : Bool), K0 = some r → Ev (fun n => L_spec_GoodWorld_0_4 n x1 x1 x3 (IntKind.wrap .i64 (x4 + 1)) x8 x9) r) : ∀ (rest : List DAtom) (k : Nat) (r : Bool), rest = x5.drop k → P_spec_GoodWorld_0_10 K0 x1 x10 rest = some r → Ev (fun n => L_spec_GoodWorld_0_10 n x1 x1 x3 x4 x5 (x5.length : Int) (k : Int) x8 x9 x10) r := by
  intro rest
  induction rest with
  | nil =>
    intro k r hr h
    have hk := drop_nil hr
    rw [P_spec_GoodWorld_0_10] at h
    refine Ev.step ?_ (fun n => L_spec_GoodWorld_0_10_eq n x1 x1 x3 x4 x5 (x5.length : Int) (k : Int) x8 x9 x10)
    rw [show decide ((k : Int) < (x5.length : Int)) = false from decide_eq_false (by omega)]
    exact Ev.neg rfl (hK0  _ h)
  | cons e rest ih =>
    intro k r hr h
    obtain ⟨hk, hx, hr2⟩ := drop_cons (d := (Ty.dflt TyAtom)) hr
    have hw := wrap_succ hl hk
    have ih2 : ∀ (r : Bool), P_spec_GoodWorld_0_10 K0 x1 x10 rest = some r → Ev (fun n => L_spec_GoodWorld_0_10 n x1 x1 x3 x4 x5 (x5.length : Int) (IntKind.wrap .i64 ((k : Int) + 1)) x8 x9 x10) r := by
      intro r h; rw [hw]; exact ih (k + 1) r hr2 h
    rw [P_spec_GoodWorld_0_10] at h
    refine Ev.step ?_ (fun n => L_spec_GoodWorld_0_10_eq n x1 x1 x3 x4 x5 (x5.length : Int) (k : Int) x8 x9 x10)
    rw [show decide ((k : Int) < (x5.length : Int)) = true from decide_eq_true (by omega), inB_nat2 hk, hx]
    exact Ev.pos rfl (Ev.pos rfl (Ev.ofBind h fun y6 h => (Ev.ofBif h (fun h => (Ev.ofSome h)) (fun h => (Ev.ofBind h fun y7 h => (Ev.ofBif h (fun h => (Ev.ofSome h)) (fun h => (ih2  _ h))))))))
theorem S_spec_GoodWorld_0_4 {x1 : (List DThing)} {x5 : DPolSchema} {x6 : DRequest} (hl : x1.length ≤ maxLen) : ∀ (rest : List DThing) (k : Nat) (r : Bool), rest = x1.drop k → P_spec_GoodWorld_0_4 x1 x5 x6 rest = some r → Ev (fun n => L_spec_GoodWorld_0_4 n x1 x1 (x1.length : Int) (k : Int) x5 x6) r := by
  intro rest
  induction rest with
  | nil =>
    intro k r hr h
    have hk := drop_nil hr
    rw [P_spec_GoodWorld_0_4] at h
    refine Ev.step ?_ (fun n => L_spec_GoodWorld_0_4_eq n x1 x1 (x1.length : Int) (k : Int) x5 x6)
    rw [show decide ((k : Int) < (x1.length : Int)) = false from decide_eq_false (by omega)]
    exact Ev.neg rfl (Ev.ofBind h fun y8 h => (Ev.ofBind h fun y9 h => (Ev.ofBind h fun y10 h => (Ev.ofBif h (fun h => (Ev.ofBif h (fun h => (Ev.ofBif h (fun h => (Ev.ofBif h (fun h => (Ev.ofBind h fun y11 h => (Ev.ofBif h (fun h => (Ev.ofBind h fun y12 h => (Ev.ofBif h (fun h => (Ev.ofBind h fun y13 h => (Ev.ofSome h))) (fun h => (Ev.ofSome h))))) (fun h => (Ev.ofSome h))))) (fun h => (Ev.ofSome h)))) (fun h => (Ev.ofSome h)))) (fun h => (Ev.ofSome h)))) (fun h => (Ev.ofSome h))))))
  | cons e rest ih =>
    intro k r hr h
    obtain ⟨hk, hx, hr2⟩ := drop_cons (d := (Ty.dflt TyThing)) hr
    have hw := wrap_succ hl hk
    have ih2 : ∀ (r : Bool), P_spec_GoodWorld_0_4 x1 x5 x6 rest = some r → Ev (fun n => L_spec_GoodWorld_0_4 n x1 x1 (x1.length : Int) (IntKind.wrap .i64 ((k : Int) + 1)) x5 x6) r := by
      intro r h; rw [hw]; exact ih (k + 1) r hr2 h
    rw [P_spec_GoodWorld_0_4] at h
    refine Ev.step ?_ (fun n => L_spec_GoodWorld_0_4_eq n x1 x1 (x1.length : Int) (k : Int) x5 x6)
    rw [show decide ((k : Int) < (x1.length : Int)) = true from decide_eq_true (by omega), inB_nat2 hk, hx]
    exact Ev.pos rfl (Ev.pos rfl (Ev.ofBind h fun y4 h => (Ev.ofBif h (fun h => (Ev.ofSome h)) (fun h => (Ev.ofBind h fun y5 h => (Ev.ofBif h (fun h => (Ev.ofSome h)) (fun h => (Ev.ofLen h fun hl h => S_spec_GoodWorld_0_10 hl ih2 _ (0 : Nat) _ rfl h))))))))
theorem S_spec_GoodWorld (a0 : DPolSchema) (a1 : (List DThing)) (a2 : DRequest) {r : Bool} (h : P_spec_GoodWorld a0 a1 a2 = some r) : Ev (fun n => F_spec_GoodWorld n a0 a1 a2) r := by
  rw [P_spec_GoodWorld] at h
  refine Ev.of_eq ?_ (fun n => F_spec_GoodWorld_eq n a0 a1 a2)
  exact (Ev.ofBind h fun y1 h => (Ev.ofBif h (fun h => (Ev.ofSome h)) (fun h => (Ev.ofBind h fun y2 h => (Ev.ofBif h (fun h => (Ev.ofSome h)) (fun h => (Ev.ofBind h fun y3 h => (Ev.ofBif h (fun h => (Ev.ofSome h)) (fun h => (Ev.ofLen h fun hl h => S_spec_GoodWorld_0_4 hl _ (0 : Nat) _ rfl h))))))))))
theorem hcs_spec_GoodWorld : ∀ x ∈ cs_spec_GoodWorld, CtrOk Tryz.prog x := (conOf_cons ok_spec_GoodPolSchema (conOf_cons ok_spec_GoodThings (conOf_cons ok_spec_GoodRequest (conOf_cons ok_spec_l11ThingType (conOf_cons ok_spec_l11Typed (conOf_cons ok_spec_l11Thing (conOf_cons ok_spec_l3Has (conOf_cons ok_spec_l11Action conOf_nil))))))))
theorem ok_spec_GoodWorld : CtrOk Tryz.prog (c_spec_GoodWorld) := by
  refine ctr_of_run (c := c_spec_GoodWorld) (by kernel_rfl) (by kernel_rfl : Tryz.prog.funcs[10]? = some Tryz.f10) (code := Tryz.f10.body.getD .skip) (by kernel_rfl) (by kernel_rfl) (by kernel_rfl) (A := A_spec_GoodWorld) (I := In_spec_GoodWorld) (hcs_spec_GoodWorld) ?_
  rintro ⟨a0, a1, a2, u⟩ y hy
  exact (S_spec_GoodWorld a0 a1 a2 hy).get

/-! ## impl.ydigit (169) -/
noncomputable def T_impl_ydigit (a0 : Int) : Bool :=
  bif decide ((48 : Int) ≤ a0) then
    decide (a0 ≤ 57)
  else
    false
noncomputable def c_impl_ydigit : Ctr := ⟨169, [U8], [.bool], fun x => some (T_impl_ydigit x.1)⟩
def A_impl_ydigit : List (List Nat × Ann) := []
def In_impl_ydigit : List (List Nat × Nat) := []
noncomputable def cs_impl_ydigit : List Ctr := []
noncomputable def F_impl_ydigit (n : Nat) (a0 : Int) : Option Bool := run Tryz.prog A_impl_ydigit In_impl_ydigit (conOf cs_impl_ydigit) Tryz.f169 (Tryz.f169.body.getD .skip) (packT [.bool]) n (argsV [U8] (a0, ()))
theorem F_impl_ydigit_eq (n : Nat) (a0 : Int) : F_impl_ydigit n a0 =
    bif decide ((48 : Int) ≤ a0) then
      some (decide (a0 ≤ 57))
    else
      some false := by kernel_rfl
theorem S_impl_ydigit (n : Nat) (a0 : Int) : F_impl_ydigit n a0 = some (T_impl_ydigit a0) := (F_impl_ydigit_eq n a0).trans (cond_some rfl rfl)
theorem hcs_impl_ydigit : ∀ x ∈ cs_impl_ydigit, CtrOk Tryz.prog x := conOf_nil
theorem ok_impl_ydigit : CtrOk Tryz.prog (c_impl_ydigit) := by
  refine ctr_of_run (c := c_impl_ydigit) (by kernel_rfl) (by kernel_rfl : Tryz.prog.funcs[169]? = some Tryz.f169) (code := Tryz.f169.body.getD .skip) (by kernel_rfl) (by kernel_rfl) (by kernel_rfl) (A := A_impl_ydigit) (I := In_impl_ydigit) (hcs_impl_ydigit) ?_
  rintro ⟨a0, u⟩ y hy
  exact ⟨0, (S_impl_ydigit 0 a0).trans hy⟩

/-! ## impl.yletter (215) -/
noncomputable def T_impl_yletter (a0 : Int) : Bool :=
  bif decide ((97 : Int) ≤ a0) then
    bif decide (a0 ≤ 122) then
      true
    else
      bif decide ((65 : Int) ≤ a0) then
        decide (a0 ≤ 90)
      else
        false
  else
    bif decide ((65 : Int) ≤ a0) then
      decide (a0 ≤ 90)
    else
      false
noncomputable def c_impl_yletter : Ctr := ⟨215, [U8], [.bool], fun x => some (T_impl_yletter x.1)⟩
def A_impl_yletter : List (List Nat × Ann) := []
def In_impl_yletter : List (List Nat × Nat) := []
noncomputable def cs_impl_yletter : List Ctr := []
noncomputable def F_impl_yletter (n : Nat) (a0 : Int) : Option Bool := run Tryz.prog A_impl_yletter In_impl_yletter (conOf cs_impl_yletter) Tryz.f215 (Tryz.f215.body.getD .skip) (packT [.bool]) n (argsV [U8] (a0, ()))
theorem F_impl_yletter_eq (n : Nat) (a0 : Int) : F_impl_yletter n a0 =
    bif decide ((97 : Int) ≤ a0) then
      bif decide (a0 ≤ 122) then
        some true
      else
        bif decide ((65 : Int) ≤ a0) then
          some (decide (a0 ≤ 90))
        else
          some false
    else
      bif decide ((65 : Int) ≤ a0) then
        some (decide (a0 ≤ 90))
      else
        some false := by kernel_rfl
theorem S_impl_yletter (n : Nat) (a0 : Int) : F_impl_yletter n a0 = some (T_impl_yletter a0) := (F_impl_yletter_eq n a0).trans (cond_some (cond_some rfl (cond_some rfl rfl)) (cond_some rfl rfl))
theorem hcs_impl_yletter : ∀ x ∈ cs_impl_yletter, CtrOk Tryz.prog x := conOf_nil
theorem ok_impl_yletter : CtrOk Tryz.prog (c_impl_yletter) := by
  refine ctr_of_run (c := c_impl_yletter) (by kernel_rfl) (by kernel_rfl : Tryz.prog.funcs[215]? = some Tryz.f215) (code := Tryz.f215.body.getD .skip) (by kernel_rfl) (by kernel_rfl) (by kernel_rfl) (A := A_impl_yletter) (I := In_impl_yletter) (hcs_impl_yletter) ?_
  rintro ⟨a0, u⟩ y hy
  exact ⟨0, (S_impl_yletter 0 a0).trans hy⟩

/-! ## impl.ywordByte (170) -/
noncomputable def T_impl_ywordByte (a0 : Int) : Bool :=
  bif T_impl_yletter a0 then
    true
  else
    bif T_impl_ydigit a0 then
      true
    else
      decide (a0 = 95)
noncomputable def c_impl_ywordByte : Ctr := ⟨170, [U8], [.bool], fun x => some (T_impl_ywordByte x.1)⟩
def A_impl_ywordByte : List (List Nat × Ann) := []
def In_impl_ywordByte : List (List Nat × Nat) := []
noncomputable def cs_impl_ywordByte : List Ctr := [c_impl_yletter, c_impl_ydigit]
noncomputable def F_impl_ywordByte (n : Nat) (a0 : Int) : Option Bool := run Tryz.prog A_impl_ywordByte In_impl_ywordByte (conOf cs_impl_ywordByte) Tryz.f170 (Tryz.f170.body.getD .skip) (packT [.bool]) n (argsV [U8] (a0, ()))
theorem F_impl_ywordByte_eq (n : Nat) (a0 : Int) : F_impl_ywordByte n a0 =
    bif T_impl_yletter a0 then
      some true
    else
      bif T_impl_ydigit a0 then
        some true
      else
        some (decide (a0 = 95)) := by kernel_rfl
theorem S_impl_ywordByte (n : Nat) (a0 : Int) : F_impl_ywordByte n a0 = some (T_impl_ywordByte a0) := (F_impl_ywordByte_eq n a0).trans (cond_some rfl (cond_some rfl rfl))
theorem hcs_impl_ywordByte : ∀ x ∈ cs_impl_ywordByte, CtrOk Tryz.prog x := (conOf_cons ok_impl_yletter (conOf_cons ok_impl_ydigit conOf_nil))
theorem ok_impl_ywordByte : CtrOk Tryz.prog (c_impl_ywordByte) := by
  refine ctr_of_run (c := c_impl_ywordByte) (by kernel_rfl) (by kernel_rfl : Tryz.prog.funcs[170]? = some Tryz.f170) (code := Tryz.f170.body.getD .skip) (by kernel_rfl) (by kernel_rfl) (by kernel_rfl) (A := A_impl_ywordByte) (I := In_impl_ywordByte) (hcs_impl_ywordByte) ?_
  rintro ⟨a0, u⟩ y hy
  exact ⟨0, (S_impl_ywordByte 0 a0).trans hy⟩

/-! ## impl.GoodName (98) -/
noncomputable def P_impl_GoodName_0_4 : List Int → Option Bool
  | [] =>
      some true
  | e :: rest =>
      bif !(T_impl_ywordByte (e)) then
        some false
      else
        P_impl_GoodName_0_4 rest
noncomputable def P_impl_GoodName (a0 : (List Int)) : Option Bool :=
  bif decide (a0 = ([] : List Int)) then
    some false
  else
    bif decide ((30 : Int) < (a0.length : Int)) then
      some false
    else
      bif inB 0 a0.length then
        bif T_impl_ydigit (rd a0 0 0) then
          some false
        else
          lenOk a0 (P_impl_GoodName_0_4 a0)
      else none
noncomputable def c_impl_GoodName : Ctr := ⟨98, [.str], [.bool], fun x => P_impl_GoodName x.1⟩
def A_impl_GoodName : List (List Nat × Ann) := [([0, 4], [.keep 0 0, .keep 0 17, .keep 0 18])]
def In_impl_GoodName : List (List Nat × Nat) := []
noncomputable def cs_impl_GoodName : List Ctr := [c_impl_ydigit, c_impl_ywordByte]
noncomputable def F_impl_GoodName (n : Nat) (a0 : (List Int)) : Option Bool := run Tryz.prog A_impl_GoodName In_impl_GoodName (conOf cs_impl_GoodName) Tryz.f98 (Tryz.f98.body.getD .skip) (packT [.bool]) n (argsV [.str] (a0, ()))
noncomputable abbrev L_impl_GoodName_0_4 (n : Nat) (x1 : (List Int)) (x2 : Int) (x3 : Int) : Option Bool := lam Tryz.prog A_impl_GoodName In_impl_GoodName (conOf cs_impl_GoodName) Tryz.f98 (Tryz.f98.body.getD .skip) (packT [.bool]) n [0, 4] [.d .str x1, .d I64 x2, .d I64 x3]
theorem F_impl_GoodName_eq (n : Nat) (a0 : (List Int)) : F_impl_GoodName n a0 =
    bif decide (a0 = ([] : List Int)) then
      some false
    else
      bif decide ((30 : Int) < (a0.length : Int)) then
        some false
      else
        bif inB 0 a0.length then
          bif T_impl_ydigit (rd a0 0 0) then
            some false
          else
            L_impl_GoodName_0_4 n a0 (a0.length : Int) 0
        else none := by kernel_rfl
theorem L_impl_GoodName_0_4_eq (n : Nat) (x1 : (List Int)) (x2 : Int) (x3 : Int) : L_impl_GoodName_0_4 (n + 1) x1 x2 x3 =
    bif decide (x3 < x2) then
      bif inB x3 x1.length then
        bif !(T_impl_ywordByte (rd x1 x3 0)) then
          some false
        else
          L_impl_GoodName_0_4 n x1 x2 (IntKind.wrap .i64 (x3 + 1))
      else none
    else
      some true := by kernel_rfl
theorem S_impl_GoodName_0_4 {x1 : (List Int)} (hl : x1.length ≤ maxLen) : ∀ (rest : List Int) (k : Nat) (r : Bool), rest = x1.drop k → P_impl_GoodName_0_4 rest = some r → Ev (fun n => L_impl_GoodName_0_4 n x1 (x1.length : Int) (k : Int)) r := by
  intro rest
  induction rest with
  | nil =>
    intro k r hr h
    have hk := drop_nil hr
    rw [P_impl_GoodName_0_4] at h
    refine Ev.step ?_ (fun n => L_impl_GoodName_0_4_eq n x1 (x1.length : Int) (k : Int))
    rw [show decide ((k : Int) < (x1.length : Int)) = false from decide_eq_false (by omega)]
    exact Ev.neg rfl (Ev.ofSome h)
  | cons e rest ih =>
    intro k r hr h
    obtain ⟨hk, hx, hr2⟩ := drop_cons (d := 0) hr
    have hw := wrap_succ hl hk
    have ih2 : ∀ (r : Bool), P_impl_GoodName_0_4 rest = some r → Ev (fun n => L_impl_GoodName_0_4 n x1 (x1.length : Int) (IntKind.wrap .i64 ((k : Int) + 1))) r := by
      intro r h; rw [hw]; exact ih (k + 1) r hr2 h
    rw [P_impl_GoodName_0_4] at h
    refine Ev.step ?_ (fun n => L_impl_GoodName_0_4_eq n x1 (x1.length : Int) (k : Int))
    rw [show decide ((k : Int) < (x1.length : Int)) = true from decide_eq_true (by omega), inB_nat2 hk, hx]
    exact Ev.pos rfl (Ev.pos rfl (Ev.ofBif h (fun h => (Ev.ofSome h)) (fun h => (ih2  _ h))))
theorem S_impl_GoodName (a0 : (List Int)) {r : Bool} (h : P_impl_GoodName a0 = some r) : Ev (fun n => F_impl_GoodName n a0) r := by
  rw [P_impl_GoodName] at h
  refine Ev.of_eq ?_ (fun n => F_impl_GoodName_eq n a0)
  exact (Ev.ofBif h (fun h => (Ev.ofSome h)) (fun h => (Ev.ofBif h (fun h => (Ev.ofSome h)) (fun h => (Ev.ofBif h (fun h => (Ev.ofBif h (fun h => (Ev.ofSome h)) (fun h => (Ev.ofLen h fun hl h => S_impl_GoodName_0_4 hl _ (0 : Nat) _ rfl h)))) (fun h => (Ev.ofNone h)))))))
theorem hcs_impl_GoodName : ∀ x ∈ cs_impl_GoodName, CtrOk Tryz.prog x := (conOf_cons ok_impl_ydigit (conOf_cons ok_impl_ywordByte conOf_nil))
theorem ok_impl_GoodName : CtrOk Tryz.prog (c_impl_GoodName) := by
  refine ctr_of_run (c := c_impl_GoodName) (by kernel_rfl) (by kernel_rfl : Tryz.prog.funcs[98]? = some Tryz.f98) (code := Tryz.f98.body.getD .skip) (by kernel_rfl) (by kernel_rfl) (by kernel_rfl) (A := A_impl_GoodName) (I := In_impl_GoodName) (hcs_impl_GoodName) ?_
  rintro ⟨a0, u⟩ y hy
  exact (S_impl_GoodName a0 hy).get

/-! ## impl.yrising (171) -/
noncomputable def P_impl_yrising_0_2 (x1 : (List (List Int))) : List (List Int) → Nat → Option Bool
  | [], k =>
      some true
  | e :: rest, k =>
      bif decide ((0 : Int) < (k : Int)) then
        bif inB (IntKind.wrap .i64 ((k : Int) - 1)) x1.length then
          bif !lessI (rd x1 (IntKind.wrap .i64 ((k : Int) - 1)) (Ty.dflt .str)) (e) then
            some false
          else
            P_impl_yrising_0_2 x1 rest (k + 1)
        else none
      else
        P_impl_yrising_0_2 x1 rest (k + 1)
noncomputable def P_impl_yrising (a0 : (List (List Int))) : Option Bool :=
  lenOk a0 (P_impl_yrising_0_2 a0 a0 0)
noncomputable def c_impl_yrising : Ctr := ⟨171, [(.list .str)], [.bool], fun x => P_impl_yrising x.1⟩
def A_impl_yrising : List (List Nat × Ann) := [([0, 2], [.keep 0 0, .keep 0 5, .keep 0 6, .keep 0 7])]
def In_impl_yrising : List (List Nat × Nat) := []
noncomputable def cs_impl_yrising : List Ctr := []
noncomputable def F_impl_yrising (n : Nat) (a0 : (List (List Int))) : Option Bool := run Tryz.prog A_impl_yrising In_impl_yrising (conOf cs_impl_yrising) Tryz.f171 (Tryz.f171.body.getD .skip) (packT [.bool]) n (argsV [(.list .str)] (a0, ()))
noncomputable abbrev L_impl_yrising_0_2 (n : Nat) (x1 : (List (List Int))) (x2 : (List (List Int))) (x3 : Int) (x4 : Int) : Option Bool := lam Tryz.prog A_impl_yrising In_impl_yrising (conOf cs_impl_yrising) Tryz.f171 (Tryz.f171.body.getD .skip) (packT [.bool]) n [0, 2] [.d (.list .str) x1, .d (.list .str) x2, .d I64 x3, .d I64 x4]
theorem F_impl_yrising_eq (n : Nat) (a0 : (List (List Int))) : F_impl_yrising n a0 =
    L_impl_yrising_0_2 n a0 a0 (a0.length : Int) 0 := by kernel_rfl
theorem L_impl_yrising_0_2_eq (n : Nat) (x1 : (List (List Int))) (x2 : (List (List Int))) (x3 : Int) (x4 : Int) : L_impl_yrising_0_2 (n + 1) x1 x2 x3 x4 =
    bif decide (x4 < x3) then
      bif inB x4 x2.length then
        bif decide ((0 : Int) < x4) then
          bif inB (IntKind.wrap .i64 (x4 - 1)) x1.length then
            bif !lessI (rd x1 (IntKind.wrap .i64 (x4 - 1)) (Ty.dflt .str)) (rd x2 x4 (Ty.dflt .str)) then
              some false
            else
              L_impl_yrising_0_2 n x1 x2 x3 (IntKind.wrap .i64 (x4 + 1))
          else none
        else
          L_impl_yrising_0_2 n x1 x2 x3 (IntKind.wrap .i64 (x4 + 1))
      else none
    else
      some true := by kernel_rfl
theorem S_impl_yrising_0_2 {x1 : (List (List Int))} (hl : x1.length ≤ maxLen) : ∀ (rest : List (List Int)) (k : Nat) (r : Bool), rest = x1.drop k → P_impl_yrising_0_2 x1 rest k = some r → Ev (fun n => L_impl_yrising_0_2 n x1 x1 (x1.length : Int) (k : Int)) r := by
  intro rest
  induction rest with
  | nil =>
    intro k r hr h
    have hk := drop_nil hr
    rw [P_impl_yrising_0_2] at h
    refine Ev.step ?_ (fun n => L_impl_yrising_0_2_eq n x1 x1 (x1.length : Int) (k : Int))
    rw [show decide ((k : Int) < (x1.length : Int)) = false from decide_eq_false (by omega)]
    exact Ev.neg rfl (Ev.ofSome h)
  | cons e rest ih =>
    intro k r hr h
    obtain ⟨hk, hx, hr2⟩ := drop_cons (d := (Ty.dflt .str)) hr
    have hw := wrap_succ hl hk
    have ih2 : ∀ (r : Bool), P_impl_yrising_0_2 x1 rest (k + 1) = some r → Ev (fun n => L_impl_yrising_0_2 n x1 x1 (x1.length : Int) (IntKind.wrap .i64 ((k : Int) + 1))) r := by
      intro r h; rw [hw]; exact ih (k + 1) r hr2 h
    rw [P_impl_yrising_0_2] at h
    refine Ev.step ?_ (fun n => L_impl_yrising_0_2_eq n x1 x1 (x1.length : Int) (k : Int))
    rw [show decide ((k : Int) < (x1.length : Int)) = true from decide_eq_true (by omega), inB_nat2 hk, hx]
    exact Ev.pos rfl (Ev.pos rfl (Ev.ofBif h (fun h => (Ev.ofBif h (fun h => (Ev.ofBif h (fun h => (Ev.ofSome h)) (fun h => (ih2  _ h)))) (fun h => (Ev.ofNone h)))) (fun h => (ih2  _ h))))
theorem S_impl_yrising (a0 : (List (List Int))) {r : Bool} (h : P_impl_yrising a0 = some r) : Ev (fun n => F_impl_yrising n a0) r := by
  rw [P_impl_yrising] at h
  refine Ev.of_eq ?_ (fun n => F_impl_yrising_eq n a0)
  exact (Ev.ofLen h fun hl h => S_impl_yrising_0_2 hl _ (0 : Nat) _ rfl h)
theorem hcs_impl_yrising : ∀ x ∈ cs_impl_yrising, CtrOk Tryz.prog x := conOf_nil
theorem ok_impl_yrising : CtrOk Tryz.prog (c_impl_yrising) := by
  refine ctr_of_run (c := c_impl_yrising) (by kernel_rfl) (by kernel_rfl : Tryz.prog.funcs[171]? = some Tryz.f171) (code := Tryz.f171.body.getD .skip) (by kernel_rfl) (by kernel_rfl) (by kernel_rfl) (A := A_impl_yrising) (I := In_impl_yrising) (hcs_impl_yrising) ?_
  rintro ⟨a0, u⟩ y hy
  exact (S_impl_yrising a0 hy).get

/-! ## impl.PolSchema).ything (53) -/
noncomputable def P_impl_PolSchema_ything_0_2_1003 (x1 : (List Int)) : List DThingType → Option (DThingType × Bool)
  | [] =>
      some ((([] : List Int), [], []), false)
  | e :: rest =>
      bif decide ((e).1 = x1) then
        some ((e), true)
      else
        P_impl_PolSchema_ything_0_2_1003 x1 rest
noncomputable def P_impl_PolSchema_ything (a0 : DPolSchema) (a1 : (List Int)) : Option (DThingType × Bool) :=
  lenOk a0.1 (P_impl_PolSchema_ything_0_2_1003 a1 a0.1)
noncomputable def c_impl_PolSchema_ything : Ctr := ⟨53, [TyPolSchema, .str], [TyThingType, .bool], fun x => P_impl_PolSchema_ything x.1 x.2.1⟩
def A_impl_PolSchema_ything : List (List Nat × Ann) := [([0, 2, 1003], [.keep 0 4, .keep 1 1, .keep 1 2, .keep 1 6, .keep 1 11, .keep 1 12, .keep 1 13, .boxd 0 4 TyThingType, .boxd 1 6 TyThingType])]
def In_impl_PolSchema_ything : List (List Nat × Nat) := [([1003], 106), ([4002, 1003], 107)]
noncomputable def cs_impl_PolSchema_ything : List Ctr := []
noncomputable def F_impl_PolSchema_ything (n : Nat) (a0 : DPolSchema) (a1 : (List Int)) : Option (DThingType × Bool) := run Tryz.prog A_impl_PolSchema_ything In_impl_PolSchema_ything (conOf cs_impl_PolSchema_ything) Tryz.f53 (Tryz.f53.body.getD .skip) (packT [TyThingType, .bool]) n (argsV [TyPolSchema, .str] (a0, a1, ()))
noncomputable abbrev L_impl_PolSchema_ything_0_2_1003 (n : Nat) (x1 : (List Int)) (x2 : (List DThingType)) (x3 : Int) (x4 : Int) (x5 : DThingType) (x6 : DThingType) : Option (DThingType × Bool) := lam Tryz.prog A_impl_PolSchema_ything In_impl_PolSchema_ything (conOf cs_impl_PolSchema_ything) Tryz.f53 (Tryz.f53.body.getD .skip) (packT [TyThingType, .bool]) n [0, 2, 1003] [.ptr 0 4 0, .fn 107 [], .d .str x1, .ptr 1 6 0, .d (.list TyThingType) x2, .d I64 x3, .d I64 x4, .agg (explode TyThingType x5), .agg (explode TyThingType x6)]
theorem F_impl_PolSchema_ything_eq (n : Nat) (a0 : DPolSchema) (a1 : (List Int)) : F_impl_PolSchema_ything n a0 a1 =
    L_impl_PolSchema_ything_0_2_1003 n a1 a0.1 (a0.1.length : Int) 0 (([] : List Int), [], []) (([] : List Int), [], []) := by kernel_rfl
theorem L_impl_PolSchema_ything_0_2_1003_eq (n : Nat) (x1 : (List Int)) (x2 : (List DThingType)) (x3 : Int) (x4 : Int) (x5 : DThingType) (x6 : DThingType) : L_impl_PolSchema_ything_0_2_1003 (n + 1) x1 x2 x3 x4 x5 x6 =
    bif decide (x4 < x3) then
      bif inB x4 x2.length then
        bif decide ((rd x2 x4 (Ty.dflt TyThingType)).1 = x1) then
          some ((rd x2 x4 (Ty.dflt TyThingType)), true)
        else
          L_impl_PolSchema_ything_0_2_1003 n x1 x2 x3 (IntKind.wrap .i64 (x4 + 1)) x5 x6
      else none
    else
      some ((([] : List Int), [], []), false) := by kernel_rfl
theorem S_impl_PolSchema_ything_0_2_1003 {x1 : (List Int)} {x2 : (List DThingType)} {x5 : DThingType} (hl : x2.length ≤ maxLen) : ∀ (rest : List DThingType) (k : Nat) (r : (DThingType × Bool)), rest = x2.drop k → P_impl_PolSchema_ything_0_2_1003 x1 rest = some r → Ev (fun n => L_impl_PolSchema_ything_0_2_1003 n x1 x2 (x2.length : Int) (k : Int) x5 x5) r := by
  intro rest
  induction rest with
  | nil =>
    intro k r hr h
    have hk := drop_nil hr
    rw [P_impl_PolSchema_ything_0_2_1003] at h
    refine Ev.step ?_ (fun n => L_impl_PolSchema_ything_0_2_1003_eq n x1 x2 (x2.length : Int) (k : Int) x5 x5)
    rw [show decide ((k : Int) < (x2.length : Int)) = false from decide_eq_false (by omega)]
    exact Ev.neg rfl (Ev.ofSome h)
  | cons e rest ih =>
    intro k r hr h
    obtain ⟨hk, hx, hr2⟩ := drop_cons (d := (Ty.dflt TyThingType)) hr
    have hw := wrap_succ hl hk
    have ih2 : ∀ (r : (DThingType × Bool)), P_impl_PolSchema_ything_0_2_1003 x1 rest = some r → Ev (fun n => L_impl_PolSchema_ything_0_2_1003 n x1 x2 (x2.length : Int) (IntKind.wrap .i64 ((k : Int) + 1)) x5 x5) r := by
      intro r h; rw [hw]; exact ih (k + 1) r hr2 h
    rw [P_impl_PolSchema_ything_0_2_1003] at h
    refine Ev.step ?_ (fun n => L_impl_PolSchema_ything_0_2_1003_eq n x1 x2 (x2.length : Int) (k : Int) x5 x5)
    rw [show decide ((k : Int) < (x2.length : Int)) = true from decide_eq_true (by omega), inB_nat2 hk, hx]
    exact Ev.pos rfl (Ev.pos rfl (Ev.ofBif h (fun h => (Ev.ofSome h)) (fun h => (ih2  _ h))))
theorem S_impl_PolSchema_ything (a0 : DPolSchema) (a1 : (List Int)) {r : (DThingType × Bool)} (h : P_impl_PolSchema_ything a0 a1 = some r) : Ev (fun n => F_impl_PolSchema_ything n a0 a1) r := by
  rw [P_impl_PolSchema_ything] at h
  refine Ev.of_eq ?_ (fun n => F_impl_PolSchema_ything_eq n a0 a1)
  exact (Ev.ofLen h fun hl h => S_impl_PolSchema_ything_0_2_1003 hl _ (0 : Nat) _ rfl h)
theorem hcs_impl_PolSchema_ything : ∀ x ∈ cs_impl_PolSchema_ything, CtrOk Tryz.prog x := conOf_nil
theorem ok_impl_PolSchema_ything : CtrOk Tryz.prog (c_impl_PolSchema_ything) := by
  refine ctr_of_run (c := c_impl_PolSchema_ything) (by kernel_rfl) (by kernel_rfl : Tryz.prog.funcs[53]? = some Tryz.f53) (code := Tryz.f53.body.getD .skip) (by kernel_rfl) (by kernel_rfl) (by kernel_rfl) (A := A_impl_PolSchema_ything) (I := In_impl_PolSchema_ything) (hcs_impl_PolSchema_ything) ?_
  rintro ⟨a0, a1, u⟩ y hy
  exact (S_impl_PolSchema_ything a0 a1 hy).get

/-! ## impl.PolSchema).ythingNames (99) -/
noncomputable def P_impl_PolSchema_ythingNames_0_2_1002_1005 (x5 : DPolSchema) : List (List Int) → Nat → Option Bool
  | [], k =>
      some true
  | e :: rest, k =>
      Option.bind (P_impl_PolSchema_ything x5 (e)) fun (y2 : (DThingType × Bool)) =>
      bif !(y2.2) then
        some (!decide ((0 : Int) ≤ (k : Int)))
      else
        P_impl_PolSchema_ythingNames_0_2_1002_1005 x5 rest (k + 1)
noncomputable def P_impl_PolSchema_ythingNames (a0 : DPolSchema) (a1 : (List (List Int))) : Option Bool :=
  Option.bind (P_impl_yrising a1) fun (y1 : Bool) =>
  bif y1 then
    lenOk a1 (P_impl_PolSchema_ythingNames_0_2_1002_1005 a0 a1 0)
  else
    some false
noncomputable def c_impl_PolSchema_ythingNames : Ctr := ⟨99, [TyPolSchema, (.list .str)], [.bool], fun x => P_impl_PolSchema_ythingNames x.1 x.2.1⟩
def A_impl_PolSchema_ythingNames : List (List Nat × Ann) := [([0, 2, 1002, 1005], [.keep 0 7, .keep 2 0, .keep 2 1, .keep 2 7, .keep 2 8, .boxd 0 2 TyPolSchema])]
def In_impl_PolSchema_ythingNames : List (List Nat × Nat) := [([1005], 172), ([1002, 1005], 216), ([4005, 1002, 1005], 173)]
noncomputable def cs_impl_PolSchema_ythingNames : List Ctr := [c_impl_yrising, c_impl_PolSchema_ything]
noncomputable def F_impl_PolSchema_ythingNames (n : Nat) (a0 : DPolSchema) (a1 : (List (List Int))) : Option Bool := run Tryz.prog A_impl_PolSchema_ythingNames In_impl_PolSchema_ythingNames (conOf cs_impl_PolSchema_ythingNames) Tryz.f99 (Tryz.f99.body.getD .skip) (packT [.bool]) n (argsV [TyPolSchema, (.list .str)] (a0, a1, ()))
noncomputable abbrev L_impl_PolSchema_ythingNames_0_2_1002_1005 (n : Nat) (x1 : Bool) (x2 : (List (List Int))) (x3 : Int) (x4 : Int) (x5 : DPolSchema) : Option Bool := lam Tryz.prog A_impl_PolSchema_ythingNames In_impl_PolSchema_ythingNames (conOf cs_impl_PolSchema_ythingNames) Tryz.f99 (Tryz.f99.body.getD .skip) (packT [.bool]) n [0, 2, 1002, 1005] [.d .bool x1, .d (.list .str) x2, .fn 173 [.ptr 0 2 0], .d I64 x3, .d I64 x4, .agg (explode TyPolSchema x5)]
theorem F_impl_PolSchema_ythingNames_eq (n : Nat) (a0 : DPolSchema) (a1 : (List (List Int))) : F_impl_PolSchema_ythingNames n a0 a1 =
    Option.bind (P_impl_yrising a1) fun (y1 : Bool) =>
    bif y1 then
      L_impl_PolSchema_ythingNames_0_2_1002_1005 n true a1 (a1.length : Int) 0 a0
    else
      some false := by kernel_rfl
theorem L_impl_PolSchema_ythingNames_0_2_1002_1005_eq (n : Nat) (x1 : Bool) (x2 : (List (List Int))) (x3 : Int) (x4 : Int) (x5 : DPolSchema) : L_impl_PolSchema_ythingNames_0_2_1002_1005 (n + 1) x1 x2 x3 x4 x5 =
    bif decide (x4 < x3) then
      bif inB x4 x2.length then
        Option.bind (P_impl_PolSchema_ything x5 (rd x2 x4 (Ty.dflt .str))) fun (y2 : (DThingType × Bool)) =>
        bif !(y2.2) then
          bif x1 then
            some (!decide ((0 : Int) ≤ x4))
          else
            some false
        else
          L_impl_PolSchema_ythingNames_0_2_1002_1005 n x1 x2 x3 (IntKind.wrap .i64 (x4 + 1)) x5
      else none
    else
      bif x1 then
        some true
      else
        some false := by kernel_rfl
theorem S_impl_PolSchema_ythingNames_0_2_1002_1005 {x2 : (List (List Int))} {x5 : DPolSchema} (hl : x2.length ≤ maxLen) : ∀ (rest : List (List Int)) (k : Nat) (r : Bool), rest = x2.drop k → P_impl_PolSchema_ythingNames_0_2_1002_1005 x5 rest k = some r → Ev (fun n => L_impl_PolSchema_ythingNames_0_2_1002_1005 n true x2 (x2.length : Int) (k : Int) x5) r := by
  intro rest
  induction rest with
  | nil =>
    intro k r hr h
    have hk := drop_nil hr
    rw [P_impl_PolSchema_ythingNames_0_2_1002_1005] at h
    refine Ev.step ?_ (fun n => L_impl_PolSchema_ythingNames_0_2_1002_1005_eq n true x2 (x2.length : Int) (k : Int) x5)
    rw [show decide ((k : Int) < (x2.length : Int)) = false from decide_eq_false (by omega)]
    exact Ev.neg rfl (Ev.pos rfl (Ev.ofSome h))
  | cons e rest ih =>
    intro k r hr h
    obtain ⟨hk, hx, hr2⟩ := drop_cons (d := (Ty.dflt .str)) hr
    have hw := wrap_succ hl hk
    have ih2 : ∀ (r : Bool), P_impl_PolSchema_ythingNames_0_2_1002_1005 x5 rest (k + 1) = some r → Ev (fun n => L_impl_PolSchema_ythingNames_0_2_1002_1005 n true x2 (x2.length : Int) (IntKind.wrap .i64 ((k : Int) + 1)) x5) r := by
      intro r h; rw [hw]; exact ih (k + 1) r hr2 h
    rw [P_impl_PolSchema_ythingNames_0_2_1002_1005] at h
    refine Ev.step ?_ (fun n => L_impl_PolSchema_ythingNames_0_2_1002_1005_eq n true x2 (x2.length : Int) (k : Int) x5)
    rw [show decide ((k : Int) < (x2.length : Int)) = true from decide_eq_true (by omega), inB_nat2 hk, hx]
    exact Ev.pos rfl (Ev.pos rfl (Ev.ofBind h fun y2 h => (Ev.ofBif h (fun h => (Ev.pos rfl (Ev.ofSome h))) (fun h => (ih2  _ h)))))
theorem S_impl_PolSchema_ythingNames (a0 : DPolSchema) (a1 : (List (List Int))) {r : Bool} (h : P_impl_PolSchema_ythingNames a0 a1 = some r) : Ev (fun n => F_impl_PolSchema_ythingNames n a0 a1) r := by
  rw [P_impl_PolSchema_ythingNames] at h
  refine Ev.of_eq ?_ (fun n => F_impl_PolSchema_ythingNames_eq n a0 a1)
  exact (Ev.ofBind h fun y1 h => (Ev.ofBif h (fun h => (Ev.ofLen h fun hl h => S_impl_PolSchema_ythingNames_0_2_1002_1005 hl _ (0 : Nat) _ rfl h)) (fun h => (Ev.ofSome h))))
theorem hcs_impl_PolSchema_ythingNames : ∀ x ∈ cs_impl_PolSchema_ythingNames, CtrOk Tryz.prog x := (conOf_cons ok_impl_yrising (conOf_cons ok_impl_PolSchema_ything conOf_nil))
theorem ok_impl_PolSchema_ythingNames : CtrOk Tryz.prog (c_impl_PolSchema_ythingNames) := by
  refine ctr_of_run (c := c_impl_PolSchema_ythingNames) (by kernel_rfl) (by kernel_rfl : Tryz.prog.funcs[99]? = some Tryz.f99) (code := Tryz.f99.body.getD .skip) (by kernel_rfl) (by kernel_rfl) (by kernel_rfl) (A := A_impl_PolSchema_ythingNames) (I := In_impl_PolSchema_ythingNames) (hcs_impl_PolSchema_ythingNames) ?_
  rintro ⟨a0, a1, u⟩ y hy
  exact (S_impl_PolSchema_ythingNames a0 a1 hy).get

/-! ## stringslite.HasPrefix (211) -/
noncomputable def P_stringslite_HasPrefix (a0 : (List Int)) (a1 : (List Int)) : Option Bool :=
  bif decide ((a1.length : Int) ≤ (a0.length : Int)) then
    bif decide ((0 : Int) ≤ (a1.length : Int)) && decide ((a1.length : Int) ≤ (a0.length : Int)) then
      some (decide (cut a0 0 (a1.length : Int) = a1))
    else none
  else
    some false
noncomputable def c_stringslite_HasPrefix : Ctr := ⟨211, [.str, .str], [.bool], fun x => P_stringslite_HasPrefix x.1 x.2.1⟩
def A_stringslite_HasPrefix : List (List Nat × Ann) := []
def In_stringslite_HasPrefix : List (List Nat × Nat) := []
noncomputable def cs_stringslite_HasPrefix : List Ctr := []
noncomputable def F_stringslite_HasPrefix (n : Nat) (a0 : (List Int)) (a1 : (List Int)) : Option Bool := run Tryz.prog A_stringslite_HasPrefix In_stringslite_HasPrefix (conOf cs_stringslite_HasPrefix) Tryz.f211 (Tryz.f211.body.getD .skip) (packT [.bool]) n (argsV [.str, .str] (a0, a1, ()))
theorem F_stringslite_HasPrefix_eq (n : Nat) (a0 : (List Int)) (a1 : (List Int)) : F_stringslite_HasPrefix n a0 a1 =
    bif decide ((a1.length : Int) ≤ (a0.length : Int)) then
      bif decide ((0 : Int) ≤ (a1.length : Int)) && decide ((a1.length : Int) ≤ (a0.length : Int)) then
        some (decide (cut a0 0 (a1.length : Int) = a1))
      else none
    else
      some false := by kernel_rfl
theorem S_stringslite_HasPrefix (a0 : (List Int)) (a1 : (List Int)) {r : Bool} (h : P_stringslite_HasPrefix a0 a1 = some r) : Ev (fun n => F_stringslite_HasPrefix n a0 a1) r := by
  rw [P_stringslite_HasPrefix] at h
  refine Ev.of_eq ?_ (fun n => F_stringslite_HasPrefix_eq n a0 a1)
  exact (Ev.ofBif h (fun h => (Ev.ofBif h (fun h => (Ev.ofSome h)) (fun h => (Ev.ofNone h)))) (fun h => (Ev.ofSome h)))
theorem hcs_stringslite_HasPrefix : ∀ x ∈ cs_stringslite_HasPrefix, CtrOk Tryz.prog x := conOf_nil
theorem ok_stringslite_HasPrefix : CtrOk Tryz.prog (c_stringslite_HasPrefix) := by
  refine ctr_of_run (c := c_stringslite_HasPrefix) (by kernel_rfl) (by kernel_rfl : Tryz.prog.funcs[211]? = some Tryz.f211) (code := Tryz.f211.body.getD .skip) (by kernel_rfl) (by kernel_rfl) (by kernel_rfl) (A := A_stringslite_HasPrefix) (I := In_stringslite_HasPrefix) (hcs_stringslite_HasPrefix) ?_
  rintro ⟨a0, a1, u⟩ y hy
  exact (S_stringslite_HasPrefix a0 a1 hy).get

/-! ## stringslite.TrimPrefix (232) -/
noncomputable def P_stringslite_TrimPrefix (a0 : (List Int)) (a1 : (List Int)) : Option (List Int) :=
  Option.bind (P_stringslite_HasPrefix a0 a1) fun (y1 : Bool) =>
  bif y1 then
    bif decide ((0 : Int) ≤ (a1.length : Int)) && decide ((a1.length : Int) ≤ (a0.length : Int)) then
      some (cut a0 (a1.length : Int) (a0.length : Int))
    else none
  else
    some a0
noncomputable def c_stringslite_TrimPrefix : Ctr := ⟨232, [.str, .str], [.str], fun x => P_stringslite_TrimPrefix x.1 x.2.1⟩
def A_stringslite_TrimPrefix : List (List Nat × Ann) := []
def In_stringslite_TrimPrefix : List (List Nat × Nat) := []
noncomputable def cs_stringslite_TrimPrefix : List Ctr := [c_stringslite_HasPrefix]
noncomputable def F_stringslite_TrimPrefix (n : Nat) (a0 : (List Int)) (a1 : (List Int)) : Option (List Int) := run Tryz.prog A_stringslite_TrimPrefix In_stringslite_TrimPrefix (conOf cs_stringslite_TrimPrefix) Tryz.f232 (Tryz.f232.body.getD .skip) (packT [.str]) n (argsV [.str, .str] (a0, a1, ()))
theorem F_stringslite_TrimPrefix_eq (n : Nat) (a0 : (List Int)) (a1 : (List Int)) : F_stringslite_TrimPrefix n a0 a1 =
    Option.bind (P_stringslite_HasPrefix a0 a1) fun (y1 : Bool) =>
    bif y1 then
      bif decide ((0 : Int) ≤ (a1.length : Int)) && decide ((a1.length : Int) ≤ (a0.length : Int)) then
        some (cut a0 (a1.length : Int) (a0.length : Int))
      else none
    else
      some a0 := by kernel_rfl
theorem S_stringslite_TrimPrefix (a0 : (List Int)) (a1 : (List Int)) {r : (List Int)} (h : P_stringslite_TrimPrefix a0 a1 = some r) : Ev (fun n => F_stringslite_TrimPrefix n a0 a1) r := by
  rw [P_stringslite_TrimPrefix] at h
  refine Ev.of_eq ?_ (fun n => F_stringslite_TrimPrefix_eq n a0 a1)
  exact (Ev.ofBind h fun y1 h => (Ev.ofBif h (fun h => (Ev.ofBif h (fun h => (Ev.ofSome h)) (fun h => (Ev.ofNone h)))) (fun h => (Ev.ofSome h))))
theorem hcs_stringslite_TrimPrefix : ∀ x ∈ cs_stringslite_TrimPrefix, CtrOk Tryz.prog x := (conOf_cons ok_stringslite_HasPrefix conOf_nil)
theorem ok_stringslite_TrimPrefix : CtrOk Tryz.prog (c_stringslite_TrimPrefix) := by
  refine ctr_of_run (c := c_stringslite_TrimPrefix) (by kernel_rfl) (by kernel_rfl : Tryz.prog.funcs[232]? = some Tryz.f232) (code := Tryz.f232.body.getD .skip) (by kernel_rfl) (by kernel_rfl) (by kernel_rfl) (A := A_stringslite_TrimPrefix) (I := In_stringslite_TrimPrefix) (hcs_stringslite_TrimPrefix) ?_
  rintro ⟨a0, a1, u⟩ y hy
  exact (S_stringslite_TrimPrefix a0 a1 hy).get

/-! ## strings.TrimPrefix (217) -/
noncomputable def P_strings_TrimPrefix (a0 : (List Int)) (a1 : (List Int)) : Option (List Int) :=
  Option.bind (P_stringslite_TrimPrefix a0 a1) fun (y1 : (List Int)) =>
  some y1
noncomputable def c_strings_TrimPrefix : Ctr := ⟨217, [.str, .str], [.str], fun x => P_strings_TrimPrefix x.1 x.2.1⟩
def A_strings_TrimPrefix : List (List Nat × Ann) := []
def In_strings_TrimPrefix : List (List Nat × Nat) := []
noncomputable def cs_strings_TrimPrefix : List Ctr := [c_stringslite_TrimPrefix]
noncomputable def F_strings_TrimPrefix (n : Nat) (a0 : (List Int)) (a1 : (List Int)) : Option (List Int) := run Tryz.prog A_strings_TrimPrefix In_strings_TrimPrefix (conOf cs_strings_TrimPrefix) Tryz.f217 (Tryz.f217.body.getD .skip) (packT [.str]) n (argsV [.str, .str] (a0, a1, ()))
theorem F_strings_TrimPrefix_eq (n : Nat) (a0 : (List Int)) (a1 : (List Int)) : F_strings_TrimPrefix n a0 a1 =
    Option.bind (P_stringslite_TrimPrefix a0 a1) fun (y1 : (List Int)) =>
    some y1 := by kernel_rfl
theorem S_strings_TrimPrefix (a0 : (List Int)) (a1 : (List Int)) {r : (List Int)} (h : P_strings_TrimPrefix a0 a1 = some r) : Ev (fun n => F_strings_TrimPrefix n a0 a1) r := by
  rw [P_strings_TrimPrefix] at h
  refine Ev.of_eq ?_ (fun n => F_strings_TrimPrefix_eq n a0 a1)
  exact (Ev.ofBind h fun y1 h => (Ev.ofSome h))
theorem hcs_strings_TrimPrefix : ∀ x ∈ cs_strings_TrimPrefix, CtrOk Tryz.prog x := (conOf_cons ok_stringslite_TrimPrefix conOf_nil)
theorem ok_strings_TrimPrefix : CtrOk Tryz.prog (c_strings_TrimPrefix) := by
  refine ctr_of_run (c := c_strings_TrimPrefix) (by kernel_rfl) (by kernel_rfl : Tryz.prog.funcs[217]? = some Tryz.f217) (code := Tryz.f217.body.getD .skip) (by kernel_rfl) (by kernel_rfl) (by kernel_rfl) (A := A_strings_TrimPrefix) (I := In_strings_TrimPrefix) (hcs_strings_TrimPrefix) ?_
  rintro ⟨a0, a1, u⟩ y hy
  exact (S_strings_TrimPrefix a0 a1 hy).get

/-! ## stringslite.CutPrefix (210) -/
noncomputable def P_stringslite_CutPrefix (a0 : (List Int)) (a1 : (List Int)) : Option ((List Int) × Bool) :=
  Option.bind (P_stringslite_HasPrefix a0 a1) fun (y1 : Bool) =>
  bif !(y1) then
    some (a0, false)
  else
    bif decide ((0 : Int) ≤ (a1.length : Int)) && decide ((a1.length : Int) ≤ (a0.length : Int)) then
      some (cut a0 (a1.length : Int) (a0.length : Int), true)
    else none
noncomputable def c_stringslite_CutPrefix : Ctr := ⟨210, [.str, .str], [.str, .bool], fun x => P_stringslite_CutPrefix x.1 x.2.1⟩
def A_stringslite_CutPrefix : List (List Nat × Ann) := []
def In_stringslite_CutPrefix : List (List Nat × Nat) := []
noncomputable def cs_stringslite_CutPrefix : List Ctr := [c_stringslite_HasPrefix]
noncomputable def F_stringslite_CutPrefix (n : Nat) (a0 : (List Int)) (a1 : (List Int)) : Option ((List Int) × Bool) := run Tryz.prog A_stringslite_CutPrefix In_stringslite_CutPrefix (conOf cs_stringslite_CutPrefix) Tryz.f210 (Tryz.f210.body.getD .skip) (packT [.str, .bool]) n (argsV [.str, .str] (a0, a1, ()))
theorem F_stringslite_CutPrefix_eq (n : Nat) (a0 : (List Int)) (a1 : (List Int)) : F_stringslite_CutPrefix n a0 a1 =
    Option.bind (P_stringslite_HasPrefix a0 a1) fun (y1 : Bool) =>
    bif !(y1) then
      some (a0, false)
    else
      bif decide ((0 : Int) ≤ (a1.length : Int)) && decide ((a1.length : Int) ≤ (a0.length : Int)) then
        some (cut a0 (a1.length : Int) (a0.length : Int), true)
      else none := by kernel_rfl
theorem S_stringslite_CutPrefix (a0 : (List Int)) (a1 : (List Int)) {r : ((List Int) × Bool)} (h : P_stringslite_CutPrefix a0 a1 = some r) : Ev (fun n => F_stringslite_CutPrefix n a0 a1) r := by
  rw [P_stringslite_CutPrefix] at h
  refine Ev.of_eq ?_ (fun n => F_stringslite_CutPrefix_eq n a0 a1)
  exact (Ev.ofBind h fun y1 h => (Ev.ofBif h (fun h => (Ev.ofSome h)) (fun h => (Ev.ofBif h (fun h => (Ev.ofSome h)) (fun h => (Ev.ofNone h))))))
theorem hcs_stringslite_CutPrefix : ∀ x ∈ cs_stringslite_CutPrefix, CtrOk Tryz.prog x := (conOf_cons ok_stringslite_HasPrefix conOf_nil)
theorem ok_stringslite_CutPrefix : CtrOk Tryz.prog (c_stringslite_CutPrefix) := by
  refine ctr_of_run (c := c_stringslite_CutPrefix) (by kernel_rfl) (by kernel_rfl : Tryz.prog.funcs[210]? = some Tryz.f210) (code := Tryz.f210.body.getD .skip) (by kernel_rfl) (by kernel_rfl) (by kernel_rfl) (A := A_stringslite_CutPrefix) (I := In_stringslite_CutPrefix) (hcs_stringslite_CutPrefix) ?_
  rintro ⟨a0, a1, u⟩ y hy
  exact (S_stringslite_CutPrefix a0 a1 hy).get

/-! ## strings.CutPrefix (154) -/
noncomputable def P_strings_CutPrefix (a0 : (List Int)) (a1 : (List Int)) : Option ((List Int) × Bool) :=
  Option.bind (P_stringslite_CutPrefix a0 a1) fun (y1 : ((List Int) × Bool)) =>
  some (y1.1, y1.2)
noncomputable def c_strings_CutPrefix : Ctr := ⟨154, [.str, .str], [.str, .bool], fun x => P_strings_CutPrefix x.1 x.2.1⟩
def A_strings_CutPrefix : List (List Nat × Ann) := []
def In_strings_CutPrefix : List (List Nat × Nat) := []
noncomputable def cs_strings_CutPrefix : List Ctr := [c_stringslite_CutPrefix]
noncomputable def F_strings_CutPrefix (n : Nat) (a0 : (List Int)) (a1 : (List Int)) : Option ((List Int) × Bool) := run Tryz.prog A_strings_CutPrefix In_strings_CutPrefix (conOf cs_strings_CutPrefix) Tryz.f154 (Tryz.f154.body.getD .skip) (packT [.str, .bool]) n (argsV [.str, .str] (a0, a1, ()))
theorem F_strings_CutPrefix_eq (n : Nat) (a0 : (List Int)) (a1 : (List Int)) : F_strings_CutPrefix n a0 a1 =
    Option.bind (P_stringslite_CutPrefix a0 a1) fun (y1 : ((List Int) × Bool)) =>
    some (y1.1, y1.2) := by kernel_rfl
theorem S_strings_CutPrefix (a0 : (List Int)) (a1 : (List Int)) {r : ((List Int) × Bool)} (h : P_strings_CutPrefix a0 a1 = some r) : Ev (fun n => F_strings_CutPrefix n a0 a1) r := by
  rw [P_strings_CutPrefix] at h
  refine Ev.of_eq ?_ (fun n => F_strings_CutPrefix_eq n a0 a1)
  exact (Ev.ofBind h fun y1 h => (Ev.ofSome h))
theorem hcs_strings_CutPrefix : ∀ x ∈ cs_strings_CutPrefix, CtrOk Tryz.prog x := (conOf_cons ok_stringslite_CutPrefix conOf_nil)
theorem ok_strings_CutPrefix : CtrOk Tryz.prog (c_strings_CutPrefix) := by
  refine ctr_of_run (c := c_strings_CutPrefix) (by kernel_rfl) (by kernel_rfl : Tryz.prog.funcs[154]? = some Tryz.f154) (code := Tryz.f154.body.getD .skip) (by kernel_rfl) (by kernel_rfl) (by kernel_rfl) (A := A_strings_CutPrefix) (I := In_strings_CutPrefix) (hcs_strings_CutPrefix) ?_
  rintro ⟨a0, a1, u⟩ y hy
  exact (S_strings_CutPrefix a0 a1 hy).get

/-! ## impl.PolSchema).ygoodKind (174) -/
noncomputable def P_impl_PolSchema_ygoodKind (g1 : (List ((List Int) × Int))) (a0 : DPolSchema) (a1 : (List Int)) : Option Bool :=
  Option.bind (P_strings_TrimPrefix a1 ([115, 101, 116, 32] : List Int)) fun (y1 : (List Int)) =>
  Option.bind (P_strings_CutPrefix y1 ([114, 101, 102, 32] : List Int)) fun (y2 : ((List Int) × Bool)) =>
  bif y2.2 then
    Option.bind (P_impl_PolSchema_ything a0 y2.1) fun (y3 : (DThingType × Bool)) =>
    some y3.2
  else
    some (decide ((0 : Int) < getM .str g1 y1 0))
noncomputable def c_impl_PolSchema_ygoodKind (g1 : (List ((List Int) × Int))) : Ctr := ⟨174, [TyPolSchema, .str], [.bool], fun x => P_impl_PolSchema_ygoodKind g1 x.1 x.2.1⟩
def A_impl_PolSchema_ygoodKind : List (List Nat × Ann) := []
def In_impl_PolSchema_ygoodKind : List (List Nat × Nat) := []
noncomputable def cs_impl_PolSchema_ygoodKind (g1 : (List ((List Int) × Int))) : List Ctr := [c_strings_TrimPrefix, c_strings_CutPrefix, c_impl_PolSchema_ything]
noncomputable def F_impl_PolSchema_ygoodKind (g1 : (List ((List Int) × Int))) (n : Nat) (a0 : DPolSchema) (a1 : (List Int)) : Option Bool := runE Tryz.prog (glOf [(1, explode (.map .str I64) g1)]) A_impl_PolSchema_ygoodKind In_impl_PolSchema_ygoodKind (conOf (cs_impl_PolSchema_ygoodKind g1)) Tryz.f174 (Tryz.f174.body.getD .skip) (endD Tryz.prog Tryz.f174 (packT [.bool])) n (argsV [TyPolSchema, .str] (a0, a1, ()))
theorem F_impl_PolSchema_ygoodKind_eq (g1 : (List ((List Int) × Int))) (n : Nat) (a0 : DPolSchema) (a1 : (List Int)) : F_impl_PolSchema_ygoodKind g1 n a0 a1 =
    Option.bind (P_strings_TrimPrefix a1 ([115, 101, 116, 32] : List Int)) fun (y1 : (List Int)) =>
    Option.bind (P_strings_CutPrefix y1 ([114, 101, 102, 32] : List Int)) fun (y2 : ((List Int) × Bool)) =>
    bif y2.2 then
      Option.bind (P_impl_PolSchema_ything a0 y2.1) fun (y3 : (DThingType × Bool)) =>
      some y3.2
    else
      some (decide ((0 : Int) < getM .str g1 y1 0)) := by kernel_rfl
theorem S_impl_PolSchema_ygoodKind {g1 : (List ((List Int) × Int))} (a0 : DPolSchema) (a1 : (List Int)) {r : Bool} (h : P_impl_PolSchema_ygoodKind g1 a0 a1 = some r) : Ev (fun n => F_impl_PolSchema_ygoodKind g1 n a0 a1) r := by
  rw [P_impl_PolSchema_ygoodKind] at h
  refine Ev.of_eq ?_ (fun n => F_impl_PolSchema_ygoodKind_eq g1 n a0 a1)
  exact (Ev.ofBind h fun y1 h => (Ev.ofBind h fun y2 h => (Ev.ofBif h (fun h => (Ev.ofBind h fun y3 h => (Ev.ofSome h))) (fun h => (Ev.ofSome h)))))
theorem hcs_impl_PolSchema_ygoodKind (g1 : (List ((List Int) × Int))) : ∀ x ∈ cs_impl_PolSchema_ygoodKind g1, CtrOkG Tryz.prog (glOf [(1, explode (.map .str I64) g1)]) x := (conOf_cons ok_strings_TrimPrefix.any (conOf_cons ok_strings_CutPrefix.any (conOf_cons ok_impl_PolSchema_ything.any conOf_nil)))
theorem ok_impl_PolSchema_ygoodKind (g1 : (List ((List Int) × Int))) : CtrOkG Tryz.prog (glOf [(1, explode (.map .str I64) g1)]) (c_impl_PolSchema_ygoodKind g1) := by
  refine ctr_of_run (c := c_impl_PolSchema_ygoodKind g1) (by kernel_rfl) (by kernel_rfl : Tryz.prog.funcs[174]? = some Tryz.f174) (code := Tryz.f174.body.getD .skip) (by kernel_rfl) (by kernel_rfl) (by kernel_rfl) (A := A_impl_PolSchema_ygoodKind) (I := In_impl_PolSchema_ygoodKind) (hcs_impl_PolSchema_ygoodKind g1) ?_
  rintro ⟨a0, a1, u⟩ y hy
  exact (S_impl_PolSchema_ygoodKind a0 a1 hy).get

/-! ## impl.PolSchema).ygoodAttrs (100) -/
noncomputable def P_impl_PolSchema_ygoodAttrs_0_4 (g1 : (List ((List Int) × Int))) (x1 : (List DAttrKind)) (x5 : DPolSchema) : List DAttrKind → Nat → Option Bool
  | [], k =>
      some true
  | e :: rest, k =>
      Option.bind (P_impl_GoodName ((e).1)) fun (y1 : Bool) =>
      bif !(y1) then
        some false
      else
        bif decide ((0 : Int) < (k : Int)) then
          bif inB (IntKind.wrap .i64 ((k : Int) - 1)) x1.length then
            bif !lessI ((rd x1 (IntKind.wrap .i64 ((k : Int) - 1)) (Ty.dflt TyAttrKind)).1) ((e).1) then
              some false
            else
              Option.bind (P_impl_PolSchema_ygoodKind g1 x5 (((e).2).1)) fun (y2 : Bool) =>
              bif !(y2) then
                some false
              else
                P_impl_PolSchema_ygoodAttrs_0_4 g1 x1 x5 rest (k + 1)
          else none
        else
          Option.bind (P_impl_PolSchema_ygoodKind g1 x5 (((e).2).1)) fun (y3 : Bool) =>
          bif !(y3) then
            some false
          else
            P_impl_PolSchema_ygoodAttrs_0_4 g1 x1 x5 rest (k + 1)
noncomputable def P_impl_PolSchema_ygoodAttrs (g1 : (List ((List Int) × Int))) (a0 : DPolSchema) (a1 : (List DAttrKind)) : Option Bool :=
  bif decide ((20 : Int) < (a1.length : Int)) then
    some false
  else
    lenOk a1 (P_impl_PolSchema_ygoodAttrs_0_4 g1 a1 a0 a1 0)
noncomputable def c_impl_PolSchema_ygoodAttrs (g1 : (List ((List Int) × Int))) : Ctr := ⟨100, [TyPolSchema, (.list TyAttrKind)], [.bool], fun x => P_impl_PolSchema_ygoodAttrs g1 x.1 x.2.1⟩
def A_impl_PolSchema_ygoodAttrs : List (List Nat × Ann) := [([0, 4], [.keep 0 1, .keep 0 2, .keep 0 10, .keep 0 11, .keep 0 12, .boxd 0 2 TyPolSchema])]
def In_impl_PolSchema_ygoodAttrs : List (List Nat × Nat) := []
noncomputable def cs_impl_PolSchema_ygoodAttrs (g1 : (List ((List Int) × Int))) : List Ctr := [c_impl_GoodName, (c_impl_PolSchema_ygoodKind g1)]
noncomputable def F_impl_PolSchema_ygoodAttrs (g1 : (List ((List Int) × Int))) (n : Nat) (a0 : DPolSchema) (a1 : (List DAttrKind)) : Option Bool := runE Tryz.prog (glOf [(1, explode (.map .str I64) g1)]) A_impl_PolSchema_ygoodAttrs In_impl_PolSchema_ygoodAttrs (conOf (cs_impl_PolSchema_ygoodAttrs g1)) Tryz.f100 (Tryz.f100.body.getD .skip) (endD Tryz.prog Tryz.f100 (packT [.bool])) n (argsV [TyPolSchema, (.list TyAttrKind)] (a0, a1, ()))
noncomputable abbrev L_impl_PolSchema_ygoodAttrs_0_4 (g1 : (List ((List Int) × Int))) (n : Nat) (x1 : (List DAttrKind)) (x2 : (List DAttrKind)) (x3 : Int) (x4 : Int) (x5 : DPolSchema) : Option Bool := lamE Tryz.prog (glOf [(1, explode (.map .str I64) g1)]) A_impl_PolSchema_ygoodAttrs In_impl_PolSchema_ygoodAttrs (conOf (cs_impl_PolSchema_ygoodAttrs g1)) Tryz.f100 (Tryz.f100.body.getD .skip) (endD Tryz.prog Tryz.f100 (packT [.bool])) n [0, 4] [.d (.list TyAttrKind) x1, .ptr 0 2 0, .d (.list TyAttrKind) x2, .d I64 x3, .d I64 x4, .agg (explode TyPolSchema x5)]
theorem F_impl_PolSchema_ygoodAttrs_eq (g1 : (List ((List Int) × Int))) (n : Nat) (a0 : DPolSchema) (a1 : (List DAttrKind)) : F_impl_PolSchema_ygoodAttrs g1 n a0 a1 =
    bif decide ((20 : Int) < (a1.length : Int)) then
      some false
    else
      L_impl_PolSchema_ygoodAttrs_0_4 g1 n a1 a1 (a1.length : Int) 0 a0 := by kernel_rfl
theorem L_impl_PolSchema_ygoodAttrs_0_4_eq (g1 : (List ((List Int) × Int))) (n : Nat) (x1 : (List DAttrKind)) (x2 : (List DAttrKind)) (x3 : Int) (x4 : Int) (x5 : DPolSchema) : L_impl_PolSchema_ygoodAttrs_0_4 g1 (n + 1) x1 x2 x3 x4 x5 =
    bif decide (x4 < x3) then
      bif inB x4 x2.length then
        Option.bind (P_impl_GoodName ((rd x2 x4 (Ty.dflt TyAttrKind)).1)) fun (y1 : Bool) =>
        bif !(y1) then
          some false
        else
          bif decide ((0 : Int) < x4) then
            bif inB (IntKind.wrap .i64 (x4 - 1)) x1.length then
              bif !lessI ((rd x1 (IntKind.wrap .i64 (x4 - 1)) (Ty.dflt TyAttrKind)).1) ((rd x2 x4 (Ty.dflt TyAttrKind)).1) then
                some false
              else
                Option.bind (P_impl_PolSchema_ygoodKind g1 x5 (((rd x2 x4 (Ty.dflt TyAttrKind)).2).1)) fun (y2 : Bool) =>
                bif !(y2) then
                  some false
                else
                  L_impl_PolSchema_ygoodAttrs_0_4 g1 n x1 x2 x3 (IntKind.wrap .i64 (x4 + 1)) x5
            else none
          else
            Option.bind (P_impl_PolSchema_ygoodKind g1 x5 (((rd x2 x4 (Ty.dflt TyAttrKind)).2).1)) fun (y3 : Bool) =>
            bif !(y3) then
              some false
            else
              L_impl_PolSchema_ygoodAttrs_0_4 g1 n x1 x2 x3 (IntKind.wrap .i64 (x4 + 1)) x5
      else none
    else
      some true := by kernel_rfl
theorem S_impl_PolSchema_ygoodAttrs_0_4 {g1 : (List ((List Int) × Int))} {x1 : (List DAttrKind)} {x5 : DPolSchema} (hl : x1.length ≤ maxLen) : ∀ (rest : List DAttrKind) (k : Nat) (r : Bool), rest = x1.drop k → P_impl_PolSchema_ygoodAttrs_0_4 g1 x1 x5 rest k = some r → Ev (fun n => L_impl_PolSchema_ygoodAttrs_0_4 g1 n x1 x1 (x1.length : Int) (k : Int) x5) r := by
  intro rest
  induction rest with
  | nil =>
    intro k r hr h
    have hk := drop_nil hr
    rw [P_impl_PolSchema_ygoodAttrs_0_4] at h
    refine Ev.step ?_ (fun n => L_impl_PolSchema_ygoodAttrs_0_4_eq g1 n x1 x1 (x1.length : Int) (k : Int) x5)
    rw [show decide ((k : Int) < (x1.length : Int)) = false from decide_eq_false (by omega)]
    exact Ev.neg rfl (Ev.ofSome h)
  | cons e rest ih =>
    intro k r hr h
    obtain ⟨hk, hx, hr2⟩ := drop_cons (d := (Ty.dflt TyAttrKind)) hr
    have hw := wrap_succ hl hk
    have ih2 : ∀ (r : Bool), P_impl_PolSchema_ygoodAttrs_0_4 g1 x1 x5 rest (k + 1) = some r → Ev (fun n => L_impl_PolSchema_ygoodAttrs_0_4 g1 n x1 x1 (x1.length : Int) (IntKind.wrap .i64 ((k : Int) + 1)) x5) r := by
      intro r h; rw [hw]; exact ih (k + 1) r hr2 h
    rw [P_impl_PolSchema_ygoodAttrs_0_4] at h
    refine Ev.step ?_ (fun n => L_impl_PolSchema_ygoodAttrs_0_4_eq g1 n x1 x1 (x1.length : Int) (k : Int) x5)
    rw [show decide ((k : Int) < (x1.length : Int)) = true from decide_eq_true (by omega), inB_nat2 hk, hx]
    exact Ev.pos rfl (Ev.pos rfl (Ev.ofBind h fun y1 h => (Ev.ofBif h (fun h => (Ev.ofSome h)) (fun h => (Ev.ofBif h (fun h => (Ev.ofBif h (fun h => (Ev.ofBif h (fun h => (Ev.ofSome h)) (fun h => (Ev.ofBind h fun y2 h => (Ev.ofBif h (fun h => (Ev.ofSome h)) (fun h => (ih2  _ h))))))) (fun h => (Ev.ofNone h)))) (fun h => (Ev.ofBind h fun y3 h => (Ev.ofBif h (fun h => (Ev.ofSome h)) (fun h => (ih2  _ h))))))))))
theorem S_impl_PolSchema_ygoodAttrs {g1 : (List ((List Int) × Int))} (a0 : DPolSchema) (a1 : (List DAttrKind)) {r : Bool} (h : P_impl_PolSchema_ygoodAttrs g1 a0 a1 = some r) : Ev (fun n => F_impl_PolSchema_ygoodAttrs g1 n a0 a1) r := by
  rw [P_impl_PolSchema_ygoodAttrs] at h
  refine Ev.of_eq ?_ (fun n => F_impl_PolSchema_ygoodAttrs_eq g1 n a0 a1)
  exact (Ev.ofBif h (fun h => (Ev.ofSome h)) (fun h => (Ev.ofLen h fun hl h => S_impl_PolSchema_ygoodAttrs_0_4 hl _ (0 : Nat) _ rfl h)))
theorem hcs_impl_PolSchema_ygoodAttrs (g1 : (List ((List Int) × Int))) : ∀ x ∈ cs_impl_PolSchema_ygoodAttrs g1, CtrOkG Tryz.prog (glOf [(1, explode (.map .str I64) g1)]) x := (conOf_cons ok_impl_GoodName.any (conOf_cons (ok_impl_PolSchema_ygoodKind g1) conOf_nil))
theorem ok_impl_PolSchema_ygoodAttrs (g1 : (List ((List Int) × Int))) : CtrOkG Tryz.prog (glOf [(1, explode (.map .str I64) g1)]) (c_impl_PolSchema_ygoodAttrs g1) := by
  refine ctr_of_run (c := c_impl_PolSchema_ygoodAttrs g1) (by kernel_rfl) (by kernel_rfl : Tryz.prog.funcs[100]? = some Tryz.f100) (code := Tryz.f100.body.getD .skip) (by kernel_rfl) (by kernel_rfl) (by kernel_rfl) (A := A_impl_PolSchema_ygoodAttrs) (I := In_impl_PolSchema_ygoodAttrs) (hcs_impl_PolSchema_ygoodAttrs g1) ?_
  rintro ⟨a0, a1, u⟩ y hy
  exact (S_impl_PolSchema_ygoodAttrs a0 a1 hy).get

/-! ## impl.ygoodId (101) -/
noncomputable def P_impl_ygoodId_0_4 : List Int → Option Bool
  | [] =>
      some true
  | e :: rest =>
      bif !(T_impl_ywordByte (e)) then
        bif !decide (e = 45) then
          bif !decide (e = 46) then
            some false
          else
            P_impl_ygoodId_0_4 rest
        else
          P_impl_ygoodId_0_4 rest
      else
        P_impl_ygoodId_0_4 rest
noncomputable def P_impl_ygoodId (a0 : (List Int)) : Option Bool :=
  bif decide ((a0.length : Int) < 1) then
    some false
  else
    bif decide ((40 : Int) < (a0.length : Int)) then
      some false
    else
      lenOk a0 (P_impl_ygoodId_0_4 a0)
noncomputable def c_impl_ygoodId : Ctr := ⟨101, [.str], [.bool], fun x => P_impl_ygoodId x.1⟩
def A_impl_ygoodId : List (List Nat × Ann) := [([0, 4], [.keep 0 0, .keep 0 13, .keep 0 14])]
def In_impl_ygoodId : List (List Nat × Nat) := []
noncomputable def cs_impl_ygoodId : List Ctr := [c_impl_ywordByte]
noncomputable def F_impl_ygoodId (n : Nat) (a0 : (List Int)) : Option Bool := run Tryz.prog A_impl_ygoodId In_impl_ygoodId (conOf cs_impl_ygoodId) Tryz.f101 (Tryz.f101.body.getD .skip) (packT [.bool]) n (argsV [.str] (a0, ()))
noncomputable abbrev L_impl_ygoodId_0_4 (n : Nat) (x1 : (List Int)) (x2 : Int) (x3 : Int) : Option Bool := lam Tryz.prog A_impl_ygoodId In_impl_ygoodId (conOf cs_impl_ygoodId) Tryz.f101 (Tryz.f101.body.getD .skip) (packT [.bool]) n [0, 4] [.d .str x1, .d I64 x2, .d I64 x3]
theorem F_impl_ygoodId_eq (n : Nat) (a0 : (List Int)) : F_impl_ygoodId n a0 =
    bif decide ((a0.length : Int) < 1) then
      some false
    else
      bif decide ((40 : Int) < (a0.length : Int)) then
        some false
      else
        L_impl_ygoodId_0_4 n a0 (a0.length : Int) 0 := by kernel_rfl
theorem L_impl_ygoodId_0_4_eq (n : Nat) (x1 : (List Int)) (x2 : Int) (x3 : Int) : L_impl_ygoodId_0_4 (n + 1) x1 x2 x3 =
    bif decide (x3 < x2) then
      bif inB x3 x1.length then
        bif !(T_impl_ywordByte (rd x1 x3 0)) then
          bif inB x3 x1.length then
            bif !decide (rd x1 x3 0 = 45) then
              bif inB x3 x1.length then
                bif !decide (rd x1 x3 0 = 46) then
                  some false
                else
                  L_impl_ygoodId_0_4 n x1 x2 (IntKind.wrap .i64 (x3 + 1))
              else none
            else
              L_impl_ygoodId_0_4 n x1 x2 (IntKind.wrap .i64 (x3 + 1))
          else none
        else
          L_impl_ygoodId_0_4 n x1 x2 (IntKind.wrap .i64 (x3 + 1))
      else none
    else
      some true := by kernel_rfl
theorem S_impl_ygoodId_0_4 {x1 : (List Int)} (hl : x1.length ≤ maxLen) : ∀ (rest : List Int) (k : Nat) (r : Bool), rest = x1.drop k → P_impl_ygoodId_0_4 rest = some r → Ev (fun n => L_impl_ygoodId_0_4 n x1 (x1.length : Int) (k : Int)) r := by
  intro rest
  induction rest with
  | nil =>
    intro k r hr h
    have hk := drop_nil hr
    rw [P_impl_ygoodId_0_4] at h
    refine Ev.step ?_ (fun n => L_impl_ygoodId_0_4_eq n x1 (x1.length : Int) (k : Int))
    rw [show decide ((k : Int) < (x1.length : Int)) = false from decide_eq_false (by omega)]
    exact Ev.neg rfl (Ev.ofSome h)
  | cons e rest ih =>
    intro k r hr h
    obtain ⟨hk, hx, hr2⟩ := drop_cons (d := 0) hr
    have hw := wrap_succ hl hk
    have ih2 : ∀ (r : Bool), P_impl_ygoodId_0_4 rest = some r → Ev (fun n => L_impl_ygoodId_0_4 n x1 (x1.length : Int) (IntKind.wrap .i64 ((k : Int) + 1))) r := by
      intro r h; rw [hw]; exact ih (k + 1) r hr2 h
    rw [P_impl_ygoodId_0_4] at h
    refine Ev.step ?_ (fun n => L_impl_ygoodId_0_4_eq n x1 (x1.length : Int) (k : Int))
    rw [show decide ((k : Int) < (x1.length : Int)) = true from decide_eq_true (by omega), inB_nat2 hk, hx]
    exact Ev.pos rfl (Ev.pos rfl (Ev.ofBif h (fun h => (Ev.pos rfl (Ev.ofBif h (fun h => (Ev.pos rfl (Ev.ofBif h (fun h => (Ev.ofSome h)) (fun h => (ih2  _ h))))) (fun h => (ih2  _ h))))) (fun h => (ih2  _ h))))
theorem S_impl_ygoodId (a0 : (List Int)) {r : Bool} (h : P_impl_ygoodId a0 = some r) : Ev (fun n => F_impl_ygoodId n a0) r := by
  rw [P_impl_ygoodId] at h
  refine Ev.of_eq ?_ (fun n => F_impl_ygoodId_eq n a0)
  exact (Ev.ofBif h (fun h => (Ev.ofSome h)) (fun h => (Ev.ofBif h (fun h => (Ev.ofSome h)) (fun h => (Ev.ofLen h fun hl h => S_impl_ygoodId_0_4 hl _ (0 : Nat) _ rfl h)))))
theorem hcs_impl_ygoodId : ∀ x ∈ cs_impl_ygoodId, CtrOk Tryz.prog x := (conOf_cons ok_impl_ywordByte conOf_nil)
theorem ok_impl_ygoodId : CtrOk Tryz.prog (c_impl_ygoodId) := by
  refine ctr_of_run (c := c_impl_ygoodId) (by kernel_rfl) (by kernel_rfl : Tryz.prog.funcs[101]? = some Tryz.f101) (code := Tryz.f101.body.getD .skip) (by kernel_rfl) (by kernel_rfl) (by kernel_rfl) (A := A_impl_ygoodId) (I := In_impl_ygoodId) (hcs_impl_ygoodId) ?_
  rintro ⟨a0, u⟩ y hy
  exact (S_impl_ygoodId a0 hy).get

/-! ## impl.GoodPolSchema (50) -/
noncomputable def P_impl_GoodPolSchema_0_10 (g1 : (List ((List Int) × Int))) (x4 : DPolSchema) : List DActionType → Nat → Option Bool
  | [], k =>
      some true
  | e :: rest, k =>
      Option.bind (P_impl_ygoodId ((e).1)) fun (y6 : Bool) =>
      bif !(y6) then
        some false
      else
        bif decide ((0 : Int) < (k : Int)) then
          bif inB (IntKind.wrap .i64 ((k : Int) - 1)) x4.2.length then
            bif !lessI ((rd x4.2 (IntKind.wrap .i64 ((k : Int) - 1)) (Ty.dflt TyActionType)).1) ((e).1) then
              some false
            else
              bif decide (((((e).2).1).length : Int) = 0) then
                some false
              else
                bif decide ((((((e).2).2).1).length : Int) = 0) then
                  some false
                else
                  Option.bind (P_impl_PolSchema_ythingNames x4 (((e).2).1)) fun (y7 : Bool) =>
                  bif !(y7) then
                    some false
                  else
                    Option.bind (P_impl_PolSchema_ythingNames x4 ((((e).2).2).1)) fun (y8 : Bool) =>
                    bif !(y8) then
                      some false
                    else
                      Option.bind (P_impl_PolSchema_ygoodAttrs g1 x4 ((((e).2).2).2)) fun (y9 : Bool) =>
                      bif !(y9) then
                        some false
                      else
                        P_impl_GoodPolSchema_0_10 g1 x4 rest (k + 1)
          else none
        else
          bif decide (((((e).2).1).length : Int) = 0) then
            some false
          else
            bif decide ((((((e).2).2).1).length : Int) = 0) then
              some false
            else
              Option.bind (P_impl_PolSchema_ythingNames x4 (((e).2).1)) fun (y10 : Bool) =>
              bif !(y10) then
                some false
              else
                Option.bind (P_impl_PolSchema_ythingNames x4 ((((e).2).2).1)) fun (y11 : Bool) =>
                bif !(y11) then
                  some false
                else
                  Option.bind (P_impl_PolSchema_ygoodAttrs g1 x4 ((((e).2).2).2)) fun (y12 : Bool) =>
                  bif !(y12) then
                    some false
                  else
                    P_impl_GoodPolSchema_0_10 g1 x4 rest (k + 1)
noncomputable def P_impl_GoodPolSchema_0_4 (g1 : (List ((List Int) × Int))) (x4 : DPolSchema) : List DThingType → Nat → Option Bool
  | [], k =>
      lenOk x4.2 (P_impl_GoodPolSchema_0_10 g1 x4 x4.2 0)
  | e :: rest, k =>
      Option.bind (P_impl_GoodName ((e).1)) fun (y1 : Bool) =>
      bif !(y1) then
        some false
      else
        bif decide ((e).1 = ([65, 99, 116, 105, 111, 110] : List Int)) then
          some false
        else
          bif decide ((0 : Int) < (k : Int)) then
            bif inB (IntKind.wrap .i64 ((k : Int) - 1)) x4.1.length then
              bif !lessI ((rd x4.1 (IntKind.wrap .i64 ((k : Int) - 1)) (Ty.dflt TyThingType)).1) ((e).1) then
                some false
              else
                Option.bind (P_impl_PolSchema_ythingNames x4 (((e).2).1)) fun (y2 : Bool) =>
                bif !(y2) then
                  some false
                else
                  Option.bind (P_impl_PolSchema_ygoodAttrs g1 x4 (((e).2).2)) fun (y3 : Bool) =>
                  bif !(y3) then
                    some false
                  else
                    P_impl_GoodPolSchema_0_4 g1 x4 rest (k + 1)
            else none
          else
            Option.bind (P_impl_PolSchema_ythingNames x4 (((e).2).1)) fun (y4 : Bool) =>
            bif !(y4) then
              some false
            else
              Option.bind (P_impl_PolSchema_ygoodAttrs g1 x4 (((e).2).2)) fun (y5 : Bool) =>
              bif !(y5) then
                some false
              else
                P_impl_GoodPolSchema_0_4 g1 x4 rest (k + 1)
noncomputable def P_impl_GoodPolSchema (g1 : (List ((List Int) × Int))) (a0 : DPolSchema) : Option Bool :=
  bif decide ((20 : Int) < (a0.1.length : Int)) then
    some false
  else
    bif decide ((20 : Int) < (a0.2.length : Int)) then
      some false
    else
      lenOk a0.1 (P_impl_GoodPolSchema_0_4 g1 a0 a0.1 0)
noncomputable def c_impl_GoodPolSchema (g1 : (List ((List Int) × Int))) : Ctr := ⟨50, [TyPolSchema], [.bool], fun x => P_impl_GoodPolSchema g1 x.1⟩
def A_impl_GoodPolSchema : List (List Nat × Ann) := [([0, 4], [.keep 0 1, .keep 0 18, .keep 0 19, .keep 0 20, .boxd 0 1 TyPolSchema]), ([0, 10], [.keep 0 1, .keep 0 66, .keep 0 67, .keep 0 68, .boxd 0 1 TyPolSchema])]
def In_impl_GoodPolSchema : List (List Nat × Nat) := []
noncomputable def cs_impl_GoodPolSchema (g1 : (List ((List Int) × Int))) : List Ctr := [c_impl_GoodName, c_impl_PolSchema_ythingNames, (c_impl_PolSchema_ygoodAttrs g1), c_impl_ygoodId]
noncomputable def F_impl_GoodPolSchema (g1 : (List ((List Int) × Int))) (n : Nat) (a0 : DPolSchema) : Option Bool := runE Tryz.prog (glOf [(1, explode (.map .str I64) g1)]) A_impl_GoodPolSchema In_impl_GoodPolSchema (conOf (cs_impl_GoodPolSchema g1)) Tryz.f50 (Tryz.f50.body.getD .skip) (endD Tryz.prog Tryz.f50 (packT [.bool])) n (argsV [TyPolSchema] (a0, ()))
noncomputable abbrev L_impl_GoodPolSchema_0_4 (g1 : (List ((List Int) × Int))) (n : Nat) (x1 : (List DThingType)) (x2 : Int) (x3 : Int) (x4 : DPolSchema) : Option Bool := lamE Tryz.prog (glOf [(1, explode (.map .str I64) g1)]) A_impl_GoodPolSchema In_impl_GoodPolSchema (conOf (cs_impl_GoodPolSchema g1)) Tryz.f50 (Tryz.f50.body.getD .skip) (endD Tryz.prog Tryz.f50 (packT [.bool])) n [0, 4] [.ptr 0 1 0, .d (.list TyThingType) x1, .d I64 x2, .d I64 x3, .agg (explode TyPolSchema x4)]
noncomputable abbrev L_impl_GoodPolSchema_0_10 (g1 : (List ((List Int) × Int))) (n : Nat) (x1 : (List DActionType)) (x2 : Int) (x3 : Int) (x4 : DPolSchema) : Option Bool := lamE Tryz.prog (glOf [(1, explode (.map .str I64) g1)]) A_impl_GoodPolSchema In_impl_GoodPolSchema (conOf (cs_impl_GoodPolSchema g1)) Tryz.f50 (Tryz.f50.body.getD .skip) (endD Tryz.prog Tryz.f50 (packT [.bool])) n [0, 10] [.ptr 0 1 0, .d (.list TyActionType) x1, .d I64 x2, .d I64 x3, .agg (explode TyPolSchema x4)]
theorem F_impl_GoodPolSchema_eq (g1 : (List ((List Int) × Int))) (n : Nat) (a0 : DPolSchema) : F_impl_GoodPolSchema g1 n a0 =
    bif decide ((20 : Int) < (a0.1.length : Int)) then
      some false
    else
      bif decide ((20 : Int) < (a0.2.length : Int)) then
        some false
      else
        L_impl_GoodPolSchema_0_4 g1 n a0.1 (a0.1.length : Int) 0 a0 := by kernel_rfl
theorem L_impl_GoodPolSchema_0_4_eq (g1 : (List ((List Int) × Int))) (n : Nat) (x1 : (List DThingType)) (x2 : Int) (x3 : Int) (x4 : DPolSchema) : L_impl_GoodPolSchema_0_4 g1 (n + 1) x1 x2 x3 x4 =
    bif decide (x3 < x2) then
      bif inB x3 x1.length then
        Option.bind (P_impl_GoodName ((rd x1 x3 (Ty.dflt TyThingType)).1)) fun (y1 : Bool) =>
        bif !(y1) then
          some false
        else
          bif decide ((rd x1 x3 (Ty.dflt TyThingType)).1 = ([65, 99, 116, 105, 111, 110] : List Int)) then
            some false
          else
            bif decide ((0 : Int) < x3) then
              bif inB (IntKind.wrap .i64 (x3 - 1)) x4.1.length then
                bif !lessI ((rd x4.1 (IntKind.wrap .i64 (x3 - 1)) (Ty.dflt TyThingType)).1) ((rd x1 x3 (Ty.dflt TyThingType)).1) then
                  some false
                else
                  Option.bind (P_impl_PolSchema_ythingNames x4 (((rd x1 x3 (Ty.dflt TyThingType)).2).1)) fun (y2 : Bool) =>
                  bif !(y2) then
                    some false
                  else
                    Option.bind (P_impl_PolSchema_ygoodAttrs g1 x4 (((rd x1 x3 (Ty.dflt TyThingType)).2).2)) fun (y3 : Bool) =>
                    bif !(y3) then
                      some false
                    else
                      L_impl_GoodPolSchema_0_4 g1 n x1 x2 (IntKind.wrap .i64 (x3 + 1)) x4
              else none
            else
              Option.bind (P_impl_PolSchema_ythingNames x4 (((rd x1 x3 (Ty.dflt TyThingType)).2).1)) fun (y4 : Bool) =>
              bif !(y4) then
                some false
              else
                Option.bind (P_impl_PolSchema_ygoodAttrs g1 x4 (((rd x1 x3 (Ty.dflt TyThingType)).2).2)) fun (y5 : Bool) =>
                bif !(y5) then
                  some false
                else
                  L_impl_GoodPolSchema_0_4 g1 n x1 x2 (IntKind.wrap .i64 (x3 + 1)) x4
      else none
    else
      L_impl_GoodPolSchema_0_10 g1 n x4.2 (x4.2.length : Int) 0 x4 := by kernel_rfl
theorem L_impl_GoodPolSchema_0_10_eq (g1 : (List ((List Int) × Int))) (n : Nat) (x1 : (List DActionType)) (x2 : Int) (x3 : Int) (x4 : DPolSchema) : L_impl_GoodPolSchema_0_10 g1 (n + 1) x1 x2 x3 x4 =
    bif decide (x3 < x2) then
      bif inB x3 x1.length then
        Option.bind (P_impl_ygoodId ((rd x1 x3 (Ty.dflt TyActionType)).1)) fun (y6 : Bool) =>
        bif !(y6) then
          some false
        else
          bif decide ((0 : Int) < x3) then
            bif inB (IntKind.wrap .i64 (x3 - 1)) x4.2.length then
              bif !lessI ((rd x4.2 (IntKind.wrap .i64 (x3 - 1)) (Ty.dflt TyActionType)).1) ((rd x1 x3 (Ty.dflt TyActionType)).1) then
                some false
              else
                bif decide (((((rd x1 x3 (Ty.dflt TyActionType)).2).1).length : Int) = 0) then
                  some false
                else
                  bif decide ((((((rd x1 x3 (Ty.dflt TyActionType)).2).2).1).length : Int) = 0) then
                    some false
                  else
                    Option.bind (P_impl_PolSchema_ythingNames x4 (((rd x1 x3 (Ty.dflt TyActionType)).2).1)) fun (y7 : Bool) =>
                    bif !(y7) then
                      some false
                    else
                      Option.bind (P_impl_PolSchema_ythingNames x4 ((((rd x1 x3 (Ty.dflt TyActionType)).2).2).1)) fun (y8 : Bool) =>
                      bif !(y8) then
                        some false
                      else
                        Option.bind (P_impl_PolSchema_ygoodAttrs g1 x4 ((((rd x1 x3 (Ty.dflt TyActionType)).2).2).2)) fun (y9 : Bool) =>
                        bif !(y9) then
                          some false
                        else
                          L_impl_GoodPolSchema_0_10 g1 n x1 x2 (IntKind.wrap .i64 (x3 + 1)) x4
            else none
          else
            bif decide (((((rd x1 x3 (Ty.dflt TyActionType)).2).1).length : Int) = 0) then
              some false
            else
              bif decide ((((((rd x1 x3 (Ty.dflt TyActionType)).2).2).1).length : Int) = 0) then
                some false
              else
                Option.bind (P_impl_PolSchema_ythingNames x4 (((rd x1 x3 (Ty.dflt TyActionType)).2).1)) fun (y10 : Bool) =>
                bif !(y10) then
                  some false
                else
                  Option.bind (P_impl_PolSchema_ythingNames x4 ((((rd x1 x3 (Ty.dflt TyActionType)).2).2).1)) fun (y11 : Bool) =>
                  bif !(y11) then
                    some false
                  else
                    Option.bind (P_impl_PolSchema_ygoodAttrs g1 x4 ((((rd x1 x3 (Ty.dflt TyActionType)).2).2).2)) fun (y12 : Bool) =>
                    bif !(y12) then
                      some false
                    else
                      L_impl_GoodPolSchema_0_10 g1 n x1 x2 (IntKind.wrap .i64 (x3 + 1)) x4
      else none
    else
      some true := by kernel_rfl
theorem S_impl_GoodPolSchema_0_10 {g1 : (List ((List Int) × Int))} {x1 : (List DActionType)} {x4 : DPolSchema} (hl : x1.length ≤ maxLen) : ∀ (rest : List DActionType) (k : Nat) (r : Bool), rest = x1.drop k → P_impl_GoodPolSchema_0_10 g1 x4 rest k = some r → Ev (fun n => L_impl_GoodPolSchema_0_10 g1 n x1 (x1.length : Int) (k : Int) x4) r := by
  intro rest
  induction rest with
  | nil =>
    intro k r hr h
    have hk := drop_nil hr
    rw [P_impl_GoodPolSchema_0_10] at h
    refine Ev.step ?_ (fun n => L_impl_GoodPolSchema_0_10_eq g1 n x1 (x1.length : Int) (k : Int) x4)
    rw [show decide ((k : Int) < (x1.length : Int)) = false from decide_eq_false (by omega)]
    exact Ev.neg rfl (Ev.ofSome h)
  | cons e rest ih =>
    intro k r hr h
    obtain ⟨hk, hx, hr2⟩ := drop_cons (d := (Ty.dflt TyActionType)) hr
    have hw := wrap_succ hl hk
    have ih2 : ∀ (r : Bool), P_impl_GoodPolSchema_0_10 g1 x4 rest (k + 1) = some r → Ev (fun n => L_impl_GoodPolSchema_0_10 g1 n x1 (x1.length : Int) (IntKind.wrap .i64 ((k : Int) + 1)) x4) r := by
      intro r h; rw [hw]; exact ih (k + 1) r hr2 h
    rw [P_impl_GoodPolSchema_0_10] at h
    refine Ev.step ?_ (fun n => L_impl_GoodPolSchema_0_10_eq g1 n x1 (x1.length : Int) (k : Int) x4)
    rw [show decide ((k : Int) < (x1.length : Int)) = true from decide_eq_true (by omega), inB_nat2 hk, hx]
    exact Ev.pos rfl (Ev.pos rfl (Ev.ofBind h fun y6 h => (Ev.ofBif h (fun h => (Ev.ofSome h)) (fun h => (Ev.ofBif h (fun h => (Ev.ofBif h (fun h => (Ev.ofBif h (fun h => (Ev.ofSome h)) (fun h => (Ev.ofBif h (fun h => (Ev.ofSome h)) (fun h => (Ev.ofBif h (fun h => (Ev.ofSome h)) (fun h => (Ev.ofBind h fun y7 h => (Ev.ofBif h (fun h => (Ev.ofSome h)) (fun h => (Ev.ofBind h fun y8 h => (Ev.ofBif h (fun h => (Ev.ofSome h)) (fun h => (Ev.ofBind h fun y9 h => (Ev.ofBif h (fun h => (Ev.ofSome h)) (fun h => (ih2  _ h))))))))))))))))) (fun h => (Ev.ofNone h)))) (fun h => (Ev.ofBif h (fun h => (Ev.ofSome h)) (fun h => (Ev.ofBif h (fun h => (Ev.ofSome h)) (fun h => (Ev.ofBind h fun y10 h => (Ev.ofBif h (fun h => (Ev.ofSome h)) (fun h => (Ev.ofBind h fun y11 h => (Ev.ofBif h (fun h => (Ev.ofSome h)) (fun h => (Ev.ofBind h fun y12 h => (Ev.ofBif h (fun h => (Ev.ofSome h)) (fun h => (ih2  _ h))))))))))))))))))))
theorem S_impl_GoodPolSchema_0_4 {g1 : (List ((List Int) × Int))} {x1 : (List DThingType)} {x4 : DPolSchema} (hl : x1.length ≤ maxLen) : ∀ (rest : List DThingType) (k : Nat) (r : Bool), rest = x1.drop k → P_impl_GoodPolSchema_0_4 g1 x4 rest k = some r → Ev (fun n => L_impl_GoodPolSchema_0_4 g1 n x1 (x1.length : Int) (k : Int) x4) r := by
  intro rest
  induction rest with
  | nil =>
    intro k r hr h
    have hk := drop_nil hr
    rw [P_impl_GoodPolSchema_0_4] at h
    refine Ev.step ?_ (fun n => L_impl_GoodPolSchema_0_4_eq g1 n x1 (x1.length : Int) (k : Int) x4)
    rw [show decide ((k : Int) < (x1.length : Int)) = false from decide_eq_false (by omega)]
    exact Ev.neg rfl (Ev.ofLen h fun hl h => S_impl_GoodPolSchema_0_10 hl _ (0 : Nat) _ rfl h)
  | cons e rest ih =>
    intro k r hr h
    obtain ⟨hk, hx, hr2⟩ := drop_cons (d := (Ty.dflt TyThingType)) hr
    have hw := wrap_succ hl hk
    have ih2 : ∀ (r : Bool), P_impl_GoodPolSchema_0_4 g1 x4 rest (k + 1) = some r → Ev (fun n => L_impl_GoodPolSchema_0_4 g1 n x1 (x1.length : Int) (IntKind.wrap .i64 ((k : Int) + 1)) x4) r := by
      intro r h; rw [hw]; exact ih (k + 1) r hr2 h
    rw [P_impl_GoodPolSchema_0_4] at h
    refine Ev.step ?_ (fun n => L_impl_GoodPolSchema_0_4_eq g1 n x1 (x1.length : Int) (k : Int) x4)
    rw [show decide ((k : Int) < (x1.length : Int)) = true from decide_eq_true (by omega), inB_nat2 hk, hx]
    exact Ev.pos rfl (Ev.pos rfl (Ev.ofBind h fun y1 h => (Ev.ofBif h (fun h => (Ev.ofSome h)) (fun h => (Ev.ofBif h (fun h => (Ev.ofSome h)) (fun h => (Ev.ofBif h (fun h => (Ev.ofBif h (fun h => (Ev.ofBif h (fun h => (Ev.ofSome h)) (fun h => (Ev.ofBind h fun y2 h => (Ev.ofBif h (fun h => (Ev.ofSome h)) (fun h => (Ev.ofBind h fun y3 h => (Ev.ofBif h (fun h => (Ev.ofSome h)) (fun h => (ih2  _ h)))))))))) (fun h => (Ev.ofNone h)))) (fun h => (Ev.ofBind h fun y4 h => (Ev.ofBif h (fun h => (Ev.ofSome h)) (fun h => (Ev.ofBind h fun y5 h => (Ev.ofBif h (fun h => (Ev.ofSome h)) (fun h => (ih2  _ h)))))))))))))))
theorem S_impl_GoodPolSchema {g1 : (List ((List Int) × Int))} (a0 : DPolSchema) {r : Bool} (h : P_impl_GoodPolSchema g1 a0 = some r) : Ev (fun n => F_impl_GoodPolSchema g1 n a0) r := by
  rw [P_impl_GoodPolSchema] at h
  refine Ev.of_eq ?_ (fun n => F_impl_GoodPolSchema_eq g1 n a0)
  exact (Ev.ofBif h (fun h => (Ev.ofSome h)) (fun h => (Ev.ofBif h (fun h => (Ev.ofSome h)) (fun h => (Ev.ofLen h fun hl h => S_impl_GoodPolSchema_0_4 hl _ (0 : Nat) _ rfl h)))))
theorem hcs_impl_GoodPolSchema (g1 : (List ((List Int) × Int))) : ∀ x ∈ cs_impl_GoodPolSchema g1, CtrOkG Tryz.prog (glOf [(1, explode (.map .str I64) g1)]) x := (conOf_cons ok_impl_GoodName.any (conOf_cons ok_impl_PolSchema_ythingNames.any (conOf_cons (ok_impl_PolSchema_ygoodAttrs g1) (conOf_cons ok_impl_ygoodId.any conOf_nil))))
theorem ok_impl_GoodPolSchema (g1 : (List ((List Int) × Int))) : CtrOkG Tryz.prog (glOf [(1, explode (.map .str I64) g1)]) (c_impl_GoodPolSchema g1) := by
  refine ctr_of_run (c := c_impl_GoodPolSchema g1) (by kernel_rfl) (by kernel_rfl : Tryz.prog.funcs[50]? = some Tryz.f50) (code := Tryz.f50.body.getD .skip) (by kernel_rfl) (by kernel_rfl) (by kernel_rfl) (A := A_impl_GoodPolSchema) (I := In_impl_GoodPolSchema) (hcs_impl_GoodPolSchema g1) ?_
  rintro ⟨a0, u⟩ y hy
  exact (S_impl_GoodPolSchema a0 hy).get

/-! ## impl.yprinted (201) -/
noncomputable def P_impl_yprinted_0_4 : List Int → Option Bool
  | [] =>
      some true
  | e :: rest =>
      bif decide (e < 32) then
        some false
      else
        bif decide ((126 : Int) < e) then
          some false
        else
          P_impl_yprinted_0_4 rest
noncomputable def P_impl_yprinted (a0 : (List Int)) (a1 : Int) (a2 : Int) : Option Bool :=
  bif decide ((a0.length : Int) < a1) then
    some false
  else
    bif decide (a2 < (a0.length : Int)) then
      some false
    else
      lenOk a0 (P_impl_yprinted_0_4 a0)
noncomputable def c_impl_yprinted : Ctr := ⟨201, [.str, I64, I64], [.bool], fun x => P_impl_yprinted x.1 x.2.1 x.2.2.1⟩
def A_impl_yprinted : List (List Nat × Ann) := [([0, 4], [.keep 0 0, .keep 0 19, .keep 0 20])]
def In_impl_yprinted : List (List Nat × Nat) := []
noncomputable def cs_impl_yprinted : List Ctr := []
noncomputable def F_impl_yprinted (n : Nat) (a0 : (List Int)) (a1 : Int) (a2 : Int) : Option Bool := run Tryz.prog A_impl_yprinted In_impl_yprinted (conOf cs_impl_yprinted) Tryz.f201 (Tryz.f201.body.getD .skip) (packT [.bool]) n (argsV [.str, I64, I64] (a0, a1, a2, ()))
noncomputable abbrev L_impl_yprinted_0_4 (n : Nat) (x1 : (List Int)) (x2 : Int) (x3 : Int) : Option Bool := lam Tryz.prog A_impl_yprinted In_impl_yprinted (conOf cs_impl_yprinted) Tryz.f201 (Tryz.f201.body.getD .skip) (packT [.bool]) n [0, 4] [.d .str x1, .d I64 x2, .d I64 x3]
theorem F_impl_yprinted_eq (n : Nat) (a0 : (List Int)) (a1 : Int) (a2 : Int) : F_impl_yprinted n a0 a1 a2 =
    bif decide ((a0.length : Int) < a1) then
      some false
    else
      bif decide (a2 < (a0.length : Int)) then
        some false
      else
        L_impl_yprinted_0_4 n a0 (a0.length : Int) 0 := by kernel_rfl
theorem L_impl_yprinted_0_4_eq (n : Nat) (x1 : (List Int)) (x2 : Int) (x3 : Int) : L_impl_yprinted_0_4 (n + 1) x1 x2 x3 =
    bif decide (x3 < x2) then
      bif inB x3 x1.length then
        bif decide (rd x1 x3 0 < 32) then
          some false
        else
          bif inB x3 x1.length then
            bif decide ((126 : Int) < rd x1 x3 0) then
              some false
            else
              L_impl_yprinted_0_4 n x1 x2 (IntKind.wrap .i64 (x3 + 1))
          else none
      else none
    else
      some true := by kernel_rfl
theorem S_impl_yprinted_0_4 {x1 : (List Int)} (hl : x1.length ≤ maxLen) : ∀ (rest : List Int) (k : Nat) (r : Bool), rest = x1.drop k → P_impl_yprinted_0_4 rest = some r → Ev (fun n => L_impl_yprinted_0_4 n x1 (x1.length : Int) (k : Int)) r := by
  intro rest
  induction rest with
  | nil =>
    intro k r hr h
    have hk := drop_nil hr
    rw [P_impl_yprinted_0_4] at h
    refine Ev.step ?_ (fun n => L_impl_yprinted_0_4_eq n x1 (x1.length : Int) (k : Int))
    rw [show decide ((k : Int) < (x1.length : Int)) = false from decide_eq_false (by omega)]
    exact Ev.neg rfl (Ev.ofSome h)
  | cons e rest ih =>
    intro k r hr h
    obtain ⟨hk, hx, hr2⟩ := drop_cons (d := 0) hr
    have hw := wrap_succ hl hk
    have ih2 : ∀ (r : Bool), P_impl_yprinted_0_4 rest = some r → Ev (fun n => L_impl_yprinted_0_4 n x1 (x1.length : Int) (IntKind.wrap .i64 ((k : Int) + 1))) r := by
      intro r h; rw [hw]; exact ih (k + 1) r hr2 h
    rw [P_impl_yprinted_0_4] at h
    refine Ev.step ?_ (fun n => L_impl_yprinted_0_4_eq n x1 (x1.length : Int) (k : Int))
    rw [show decide ((k : Int) < (x1.length : Int)) = true from decide_eq_true (by omega), inB_nat2 hk, hx]
    exact Ev.pos rfl (Ev.pos rfl (Ev.ofBif h (fun h => (Ev.ofSome h)) (fun h => (Ev.pos rfl (Ev.ofBif h (fun h => (Ev.ofSome h)) (fun h => (ih2  _ h)))))))
theorem S_impl_yprinted (a0 : (List Int)) (a1 : Int) (a2 : Int) {r : Bool} (h : P_impl_yprinted a0 a1 a2 = some r) : Ev (fun n => F_impl_yprinted n a0 a1 a2) r := by
  rw [P_impl_yprinted] at h
  refine Ev.of_eq ?_ (fun n => F_impl_yprinted_eq n a0 a1 a2)
  exact (Ev.ofBif h (fun h => (Ev.ofSome h)) (fun h => (Ev.ofBif h (fun h => (Ev.ofSome h)) (fun h => (Ev.ofLen h fun hl h => S_impl_yprinted_0_4 hl _ (0 : Nat) _ rfl h)))))
theorem hcs_impl_yprinted : ∀ x ∈ cs_impl_yprinted, CtrOk Tryz.prog x := conOf_nil
theorem ok_impl_yprinted : CtrOk Tryz.prog (c_impl_yprinted) := by
  refine ctr_of_run (c := c_impl_yprinted) (by kernel_rfl) (by kernel_rfl : Tryz.prog.funcs[201]? = some Tryz.f201) (code := Tryz.f201.body.getD .skip) (by kernel_rfl) (by kernel_rfl) (by kernel_rfl) (A := A_impl_yprinted) (I := In_impl_yprinted) (hcs_impl_yprinted) ?_
  rintro ⟨a0, a1, a2, u⟩ y hy
  exact (S_impl_yprinted a0 a1 a2 hy).get

/-! ## impl.GoodAtom (175) -/
noncomputable def P_impl_GoodAtom_1_7 (x1 : Bool) (x2 : Int) (x3 : Bool) (x4 : DAtom) : Option Bool :=
  bif x3 then
    some x1
  else
    bif decide (x2 = 3) then
      bif decide (x4.2.1 = 0) then
        bif decide (x4.2.2.2 = ([] : List Int)) then
          Option.bind (P_impl_yprinted x4.2.2.1 0 200) fun (y1 : Bool) =>
          some y1
        else
          some false
      else
        some false
    else
      bif decide (x2 = 4) then
        bif decide (x4.2.1 = 0) then
          Option.bind (P_impl_GoodName x4.2.2.2) fun (y2 : Bool) =>
          bif y2 then
            Option.bind (P_impl_yprinted x4.2.2.1 1 200) fun (y3 : Bool) =>
            some y3
          else
            some false
        else
          some false
      else
        bif decide (x2 = 6) then
          bif !(x1) then
            some false
          else
            bif decide (x4.2.1 < 0) then
              some false
            else
              bif decide (Int.tmod x4.2.1 64 ≤ 32) then
                bif decide (IntKind.wrap .i64 (Int.tdiv x4.2.1 64) < 4294967296) then
                  bif decide ((0 : Int) ≤ IntKind.wrap .i64 (32 - (Int.tmod x4.2.1 64))) then
                    bif decide (IntKind.wrap .i64 (1 * 2 ^ (min (Int.toNat (IntKind.wrap .i64 (32 - (Int.tmod x4.2.1 64)))) 64)) = 0) then none else
                    some (decide (Int.tmod (IntKind.wrap .i64 (Int.tdiv x4.2.1 64)) (IntKind.wrap .i64 (1 * 2 ^ (min (Int.toNat (IntKind.wrap .i64 (32 - (Int.tmod x4.2.1 64)))) 64))) = 0))
                  else none
                else
                  some false
              else
                some false
        else
          bif decide (x2 = 7) then
            bif x1 then
              bif decide (((-100000000000) : Int) ≤ x4.2.1) then
                some (decide (x4.2.1 ≤ 100000000000))
              else
                some false
            else
              some false
          else
            some false
noncomputable def P_impl_GoodAtom_1_2 (x1 : Bool) (x2 : DAtom) : Option Bool :=
  bif decide (x2.1 = 1) then
    bif x1 then
      bif decide (x2.2.1 = 0) then
        some true
      else
        some (decide (x2.2.1 = 1))
    else
      some false
  else
    bif decide (x2.1 = 2) then
      P_impl_GoodAtom_1_7 x1 x2.1 (decide (x2.1 = 2)) x2
    else
      P_impl_GoodAtom_1_7 x1 x2.1 (decide (x2.1 = 5)) x2
noncomputable def P_impl_GoodAtom (a0 : DAtom) : Option Bool :=
  bif decide (a0.2.2.1 = ([] : List Int)) then
    P_impl_GoodAtom_1_2 (decide (a0.2.2.2 = ([] : List Int))) a0
  else
    P_impl_GoodAtom_1_2 false a0
noncomputable def c_impl_GoodAtom : Ctr := ⟨175, [TyAtom], [.bool], fun x => P_impl_GoodAtom x.1⟩
def A_impl_GoodAtom : List (List Nat × Ann) := [([1, 2], [.keep 0 1, .keep 0 3, .boxd 0 1 TyAtom]), ([1, 7], [.keep 0 1, .keep 0 3, .keep 0 15, .keep 0 29, .boxd 0 1 TyAtom])]
def In_impl_GoodAtom : List (List Nat × Nat) := []
noncomputable def cs_impl_GoodAtom : List Ctr := [c_impl_yprinted, c_impl_GoodName]
noncomputable def F_impl_GoodAtom (n : Nat) (a0 : DAtom) : Option Bool := run Tryz.prog A_impl_GoodAtom In_impl_GoodAtom (conOf cs_impl_GoodAtom) Tryz.f175 (Tryz.f175.body.getD .skip) (packT [.bool]) n (argsV [TyAtom] (a0, ()))
noncomputable abbrev L_impl_GoodAtom_1_2 (n : Nat) (x1 : Bool) (x2 : DAtom) : Option Bool := lam Tryz.prog A_impl_GoodAtom In_impl_GoodAtom (conOf cs_impl_GoodAtom) Tryz.f175 (Tryz.f175.body.getD .skip) (packT [.bool]) n [1, 2] [.ptr 0 1 0, .d .bool x1, .agg (explode TyAtom x2)]
noncomputable abbrev L_impl_GoodAtom_1_7 (n : Nat) (x1 : Bool) (x2 : Int) (x3 : Bool) (x4 : DAtom) : Option Bool := lam Tryz.prog A_impl_GoodAtom In_impl_GoodAtom (conOf cs_impl_GoodAtom) Tryz.f175 (Tryz.f175.body.getD .skip) (packT [.bool]) n [1, 7] [.ptr 0 1 0, .d .bool x1, .d I64 x2, .d .bool x3, .agg (explode TyAtom x4)]
theorem F_impl_GoodAtom_eq (n : Nat) (a0 : DAtom) : F_impl_GoodAtom n a0 =
    bif decide (a0.2.2.1 = ([] : List Int)) then
      L_impl_GoodAtom_1_2 n (decide (a0.2.2.2 = ([] : List Int))) a0
    else
      L_impl_GoodAtom_1_2 n false a0 := by kernel_rfl
theorem L_impl_GoodAtom_1_2_eq (n : Nat) (x1 : Bool) (x2 : DAtom) : L_impl_GoodAtom_1_2 (n + 1) x1 x2 =
    bif decide (x2.1 = 1) then
      bif x1 then
        bif decide (x2.2.1 = 0) then
          some true
        else
          some (decide (x2.2.1 = 1))
      else
        some false
    else
      bif decide (x2.1 = 2) then
        L_impl_GoodAtom_1_7 n x1 x2.1 (decide (x2.1 = 2)) x2
      else
        L_impl_GoodAtom_1_7 n x1 x2.1 (decide (x2.1 = 5)) x2 := by kernel_rfl
theorem L_impl_GoodAtom_1_7_eq (n : Nat) (x1 : Bool) (x2 : Int) (x3 : Bool) (x4 : DAtom) : L_impl_GoodAtom_1_7 (n + 1) x1 x2 x3 x4 =
    bif x3 then
      some x1
    else
      bif decide (x2 = 3) then
        bif decide (x4.2.1 = 0) then
          bif decide (x4.2.2.2 = ([] : List Int)) then
            Option.bind (P_impl_yprinted x4.2.2.1 0 200) fun (y1 : Bool) =>
            some y1
          else
            some false
        else
          some false
      else
        bif decide (x2 = 4) then
          bif decide (x4.2.1 = 0) then
            Option.bind (P_impl_GoodName x4.2.2.2) fun (y2 : Bool) =>
            bif y2 then
              Option.bind (P_impl_yprinted x4.2.2.1 1 200) fun (y3 : Bool) =>
              some y3
            else
              some false
          else
            some false
        else
          bif decide (x2 = 6) then
            bif !(x1) then
              some false
            else
              bif decide (x4.2.1 < 0) then
                some false
              else
                bif decide (Int.tmod x4.2.1 64 ≤ 32) then
                  bif decide (IntKind.wrap .i64 (Int.tdiv x4.2.1 64) < 4294967296) then
                    bif decide ((0 : Int) ≤ IntKind.wrap .i64 (32 - (Int.tmod x4.2.1 64))) then
                      bif decide (IntKind.wrap .i64 (1 * 2 ^ (min (Int.toNat (IntKind.wrap .i64 (32 - (Int.tmod x4.2.1 64)))) 64)) = 0) then none else
                      some (decide (Int.tmod (IntKind.wrap .i64 (Int.tdiv x4.2.1 64)) (IntKind.wrap .i64 (1 * 2 ^ (min (Int.toNat (IntKind.wrap .i64 (32 - (Int.tmod x4.2.1 64)))) 64))) = 0))
                    else none
                  else
                    some false
                else
                  some false
          else
            bif decide (x2 = 7) then
              bif x1 then
                bif decide (((-100000000000) : Int) ≤ x4.2.1) then
                  some (decide (x4.2.1 ≤ 100000000000))
                else
                  some false
              else
                some false
            else
              some false := by kernel_rfl
theorem S_impl_GoodAtom_1_7 {x1 : Bool} {x2 : Int} {x3 : Bool} {x4 : DAtom} {r : Bool} (h : P_impl_GoodAtom_1_7 x1 x2 x3 x4 = some r) : Ev (fun n => L_impl_GoodAtom_1_7 n x1 x2 x3 x4) r := by
  rw [P_impl_GoodAtom_1_7] at h
  refine Ev.step ?_ (fun n => L_impl_GoodAtom_1_7_eq n x1 x2 x3 x4)
  exact (Ev.ofBif h (fun h => (Ev.ofSome h)) (fun h => (Ev.ofBif h (fun h => (Ev.ofBif h (fun h => (Ev.ofBif h (fun h => (Ev.ofBind h fun y1 h => (Ev.ofSome h))) (fun h => (Ev.ofSome h)))) (fun h => (Ev.ofSome h)))) (fun h => (Ev.ofBif h (fun h => (Ev.ofBif h (fun h => (Ev.ofBind h fun y2 h => (Ev.ofBif h (fun h => (Ev.ofBind h fun y3 h => (Ev.ofSome h))) (fun h => (Ev.ofSome h))))) (fun h => (Ev.ofSome h)))) (fun h => (Ev.ofBif h (fun h => (Ev.ofBif h (fun h => (Ev.ofSome h)) (fun h => (Ev.ofBif h (fun h => (Ev.ofSome h)) (fun h => (Ev.ofBif h (fun h => (Ev.ofBif h (fun h => (Ev.ofBif h (fun h => (Ev.ofBif h (fun h => (Ev.ofNone h)) (fun h => (Ev.ofSome h)))) (fun h => (Ev.ofNone h)))) (fun h => (Ev.ofSome h)))) (fun h => (Ev.ofSome h)))))))) (fun h => (Ev.ofBif h (fun h => (Ev.ofBif h (fun h => (Ev.ofBif h (fun h => (Ev.ofSome h)) (fun h => (Ev.ofSome h)))) (fun h => (Ev.ofSome h)))) (fun h => (Ev.ofSome h)))))))))))
theorem S_impl_GoodAtom_1_2 {x1 : Bool} {x2 : DAtom} {r : Bool} (h : P_impl_GoodAtom_1_2 x1 x2 = some r) : Ev (fun n => L_impl_GoodAtom_1_2 n x1 x2) r := by
  rw [P_impl_GoodAtom_1_2] at h
  refine Ev.step ?_ (fun n => L_impl_GoodAtom_1_2_eq n x1 x2)
  exact (Ev.ofBif h (fun h => (Ev.ofBif h (fun h => (Ev.ofBif h (fun h => (Ev.ofSome h)) (fun h => (Ev.ofSome h)))) (fun h => (Ev.ofSome h)))) (fun h => (Ev.ofBif h (fun h => (S_impl_GoodAtom_1_7 h)) (fun h => (S_impl_GoodAtom_1_7 h)))))
theorem S_impl_GoodAtom (a0 : DAtom) {r : Bool} (h : P_impl_GoodAtom a0 = some r) : Ev (fun n => F_impl_GoodAtom n a0) r := by
  rw [P_impl_GoodAtom] at h
  refine Ev.of_eq ?_ (fun n => F_impl_GoodAtom_eq n a0)
  exact (Ev.ofBif h (fun h => (S_impl_GoodAtom_1_2 h)) (fun h => (S_impl_GoodAtom_1_2 h)))
theorem hcs_impl_GoodAtom : ∀ x ∈ cs_impl_GoodAtom, CtrOk Tryz.prog x := (conOf_cons ok_impl_yprinted (conOf_cons ok_impl_GoodName conOf_nil))
theorem ok_impl_GoodAtom : CtrOk Tryz.prog (c_impl_GoodAtom) := by
  refine ctr_of_run (c := c_impl_GoodAtom) (by kernel_rfl) (by kernel_rfl : Tryz.prog.funcs[175]? = some Tryz.f175) (code := Tryz.f175.body.getD .skip) (by kernel_rfl) (by kernel_rfl) (by kernel_rfl) (A := A_impl_GoodAtom) (I := In_impl_GoodAtom) (hcs_impl_GoodAtom) ?_
  rintro ⟨a0, u⟩ y hy
  exact (S_impl_GoodAtom a0 hy).get

/-! ## impl.ygoodRef (102) -/
noncomputable def P_impl_ygoodRef (a0 : DAtom) : Option Bool :=
  bif decide (a0.1 = 4) then
    Option.bind (P_impl_GoodAtom a0) fun (y1 : Bool) =>
    some y1
  else
    some false
noncomputable def c_impl_ygoodRef : Ctr := ⟨102, [TyAtom], [.bool], fun x => P_impl_ygoodRef x.1⟩
def A_impl_ygoodRef : List (List Nat × Ann) := []
def In_impl_ygoodRef : List (List Nat × Nat) := []
noncomputable def cs_impl_ygoodRef : List Ctr := [c_impl_GoodAtom]
noncomputable def F_impl_ygoodRef (n : Nat) (a0 : DAtom) : Option Bool := run Tryz.prog A_impl_ygoodRef In_impl_ygoodRef (conOf cs_impl_ygoodRef) Tryz.f102 (Tryz.f102.body.getD .skip) (packT [.bool]) n (argsV [TyAtom] (a0, ()))
theorem F_impl_ygoodRef_eq (n : Nat) (a0 : DAtom) : F_impl_ygoodRef n a0 =
    bif decide (a0.1 = 4) then
      Option.bind (P_impl_GoodAtom a0) fun (y1 : Bool) =>
      some y1
    else
      some false := by kernel_rfl
theorem S_impl_ygoodRef (a0 : DAtom) {r : Bool} (h : P_impl_ygoodRef a0 = some r) : Ev (fun n => F_impl_ygoodRef n a0) r := by
  rw [P_impl_ygoodRef] at h
  refine Ev.of_eq ?_ (fun n => F_impl_ygoodRef_eq n a0)
  exact (Ev.ofBif h (fun h => (Ev.ofBind h fun y1 h => (Ev.ofSome h))) (fun h => (Ev.ofSome h)))
theorem hcs_impl_ygoodRef : ∀ x ∈ cs_impl_ygoodRef, CtrOk Tryz.prog x := (conOf_cons ok_impl_GoodAtom conOf_nil)
theorem ok_impl_ygoodRef : CtrOk Tryz.prog (c_impl_ygoodRef) := by
  refine ctr_of_run (c := c_impl_ygoodRef) (by kernel_rfl) (by kernel_rfl : Tryz.prog.funcs[102]? = some Tryz.f102) (code := Tryz.f102.body.getD .skip) (by kernel_rfl) (by kernel_rfl) (by kernel_rfl) (A := A_impl_ygoodRef) (I := In_impl_ygoodRef) (hcs_impl_ygoodRef) ?_
  rintro ⟨a0, u⟩ y hy
  exact (S_impl_ygoodRef a0 hy).get

/-! ## cmp.isNaN[int] (218) -/
noncomputable def T_cmp_isNaN_int (a0 : Int) : Bool :=
  !decide (a0 = a0)
noncomputable def c_cmp_isNaN_int : Ctr := ⟨218, [I64], [.bool], fun x => some (T_cmp_isNaN_int x.1)⟩
def A_cmp_isNaN_int : List (List Nat × Ann) := []
def In_cmp_isNaN_int : List (List Nat × Nat) := []
noncomputable def cs_cmp_isNaN_int : List Ctr := []
noncomputable def F_cmp_isNaN_int (n : Nat) (a0 : Int) : Option Bool := run Tryz.prog A_cmp_isNaN_int In_cmp_isNaN_int (conOf cs_cmp_isNaN_int) Tryz.f218 (Tryz.f218.body.getD .skip) (packT [.bool]) n (argsV [I64] (a0, ()))
theorem F_cmp_isNaN_int_eq (n : Nat) (a0 : Int) : F_cmp_isNaN_int n a0 =
    some (!decide (a0 = a0)) := by kernel_rfl
theorem S_cmp_isNaN_int (n : Nat) (a0 : Int) : F_cmp_isNaN_int n a0 = some (T_cmp_isNaN_int a0) := (F_cmp_isNaN_int_eq n a0).trans rfl
theorem hcs_cmp_isNaN_int : ∀ x ∈ cs_cmp_isNaN_int, CtrOk Tryz.prog x := conOf_nil
theorem ok_cmp_isNaN_int : CtrOk Tryz.prog (c_cmp_isNaN_int) := by
  refine ctr_of_run (c := c_cmp_isNaN_int) (by kernel_rfl) (by kernel_rfl : Tryz.prog.funcs[218]? = some Tryz.f218) (code := Tryz.f218.body.getD .skip) (by kernel_rfl) (by kernel_rfl) (by kernel_rfl) (A := A_cmp_isNaN_int) (I := In_cmp_isNaN_int) (hcs_cmp_isNaN_int) ?_
  rintro ⟨a0, u⟩ y hy
  exact ⟨0, (S_cmp_isNaN_int 0 a0).trans hy⟩

/-! ## cmp.Compare[int] (177) -/
noncomputable def T_cmp_Compare_int (a0 : Int) (a1 : Int) : Int :=
  bif T_cmp_isNaN_int a0 then
    bif T_cmp_isNaN_int a1 then
      0
    else
      (-1)
  else
    bif T_cmp_isNaN_int a1 then
      1
    else
      bif decide (a0 < a1) then
        (-1)
      else
        bif decide (a1 < a0) then
          1
        else
          0
noncomputable def c_cmp_Compare_int : Ctr := ⟨177, [I64, I64], [I64], fun x => some (T_cmp_Compare_int x.1 x.2.1)⟩
def A_cmp_Compare_int : List (List Nat × Ann) := []
def In_cmp_Compare_int : List (List Nat × Nat) := []
noncomputable def cs_cmp_Compare_int : List Ctr := [c_cmp_isNaN_int]
noncomputable def F_cmp_Compare_int (n : Nat) (a0 : Int) (a1 : Int) : Option Int := run Tryz.prog A_cmp_Compare_int In_cmp_Compare_int (conOf cs_cmp_Compare_int) Tryz.f177 (Tryz.f177.body.getD .skip) (packT [I64]) n (argsV [I64, I64] (a0, a1, ()))
theorem F_cmp_Compare_int_eq (n : Nat) (a0 : Int) (a1 : Int) : F_cmp_Compare_int n a0 a1 =
    bif T_cmp_isNaN_int a0 then
      bif T_cmp_isNaN_int a1 then
        some 0
      else
        some (-1)
    else
      bif T_cmp_isNaN_int a1 then
        some 1
      else
        bif decide (a0 < a1) then
          some (-1)
        else
          bif decide (a1 < a0) then
            some 1
          else
            some 0 := by kernel_rfl
theorem S_cmp_Compare_int (n : Nat) (a0 : Int) (a1 : Int) : F_cmp_Compare_int n a0 a1 = some (T_cmp_Compare_int a0 a1) := (F_cmp_Compare_int_eq n a0 a1).trans (cond_some (cond_some rfl rfl) (cond_some rfl (cond_some rfl (cond_some rfl rfl))))
theorem hcs_cmp_Compare_int : ∀ x ∈ cs_cmp_Compare_int, CtrOk Tryz.prog x := (conOf_cons ok_cmp_isNaN_int conOf_nil)
theorem ok_cmp_Compare_int : CtrOk Tryz.prog (c_cmp_Compare_int) := by
  refine ctr_of_run (c := c_cmp_Compare_int) (by kernel_rfl) (by kernel_rfl : Tryz.prog.funcs[177]? = some Tryz.f177) (code := Tryz.f177.body.getD .skip) (by kernel_rfl) (by kernel_rfl) (by kernel_rfl) (A := A_cmp_Compare_int) (I := In_cmp_Compare_int) (hcs_cmp_Compare_int) ?_
  rintro ⟨a0, a1, u⟩ y hy
  exact ⟨0, (S_cmp_Compare_int 0 a0 a1).trans hy⟩

end Go.Ab
