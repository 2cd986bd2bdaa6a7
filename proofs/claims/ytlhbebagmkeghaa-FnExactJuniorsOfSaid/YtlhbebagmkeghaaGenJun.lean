/- generated -/
import Derived.Test.YtlhbebagmkeghaaAb34
import Derived.Test.YtlhbebagmkeghaaSortLay
import Derived.Test.YtlhbebagmkeghaaProg
import Derived.KernelRfl
namespace Go.Ab
open Go.Proofs
set_option maxRecDepth 20000
abbrev I64 : Ty := .int .i64
abbrev U8 : Ty := .int .u8
abbrev TyboundsError : Ty := (.pair I64 (.pair I64 (.pair .bool U8)))
abbrev DboundsError : Type := (Int × (Int × (Bool × Int)))
abbrev TyerrorAddressString : Ty := (.pair .str (.int .u64))
abbrev DerrorAddressString : Type := ((List Int) × Int)
abbrev TyAtom : Ty := (.pair I64 (.pair I64 (.pair .str .str)))
abbrev DAtom : Type := (Int × (Int × ((List Int) × (List Int))))
abbrev TyValue : Ty := (.pair I64 (.pair TyAtom (.pair (.list TyAtom) (.list .str))))
abbrev DValue : Type := (Int × (DAtom × ((List DAtom) × (List (List Int)))))
abbrev TyThing : Ty := (.pair TyAtom (.pair (.list TyAtom) (.pair (.list .str) (.list TyValue))))
abbrev DThing : Type := (DAtom × ((List DAtom) × ((List (List Int)) × (List DValue))))
abbrev TyHead : Ty := (.pair I64 (.pair TyAtom .str))
abbrev DHead : Type := (Int × (DAtom × (List Int)))
abbrev TyRole : Ty := (.pair .str (.pair (.list .str) (.list .str)))
abbrev DRole : Type := ((List Int) × ((List (List Int)) × (List (List Int))))
abbrev TyApart : Ty := (.pair (.list .str) (.pair I64 .bool))
abbrev DApart : Type := ((List (List Int)) × (Int × Bool))
abbrev TyRoleSet : Ty := (.pair (.list TyRole) (.pair (.list TyApart) (.list .str)))
abbrev DRoleSet : Type := ((List DRole) × ((List DApart) × (List (List Int))))
abbrev TyRoleGrant : Ty := (.pair .str (.pair .str (.pair .str (.pair I64 (.pair I64 I64)))))
abbrev DRoleGrant : Type := ((List Int) × ((List Int) × ((List Int) × (Int × (Int × Int)))))
abbrev TyRoleSession : Ty := (.pair .str (.pair .str (.pair (.list .str) (.pair (.list TyRoleGrant) .bool))))
abbrev DRoleSession : Type := ((List Int) × ((List Int) × ((List (List Int)) × ((List DRoleGrant) × Bool))))
abbrev TyRoleState : Ty := (.pair (.list I64) (.pair (.list TyRoleGrant) (.pair (.list TyRoleSession) I64)))
abbrev DRoleState : Type := ((List Int) × ((List DRoleGrant) × ((List DRoleSession) × Int)))
/-! ## spec.l15Role (69) -/
noncomputable def P_spec_l15Role_0_2 (x1 : (List Int)) : List DRole → Option (DRole × Bool)
  | [] =>
      some ((([] : List Int), [], []), false)
  | e :: rest =>
      bif decide ((e).1 = x1) then
        some ((e), true)
      else
        P_spec_l15Role_0_2 x1 rest
noncomputable def P_spec_l15Role (a0 : DRoleSet) (a1 : (List Int)) : Option (DRole × Bool) :=
  lenOk a0.1 (P_spec_l15Role_0_2 a1 a0.1)
noncomputable def c_spec_l15Role : Ctr := ⟨69, [TyRoleSet, .str], [TyRole, .bool], fun x => P_spec_l15Role x.1 x.2.1⟩
def A_spec_l15Role : List (List Nat × Ann) := [([0, 2], [.keep 0 1, .keep 0 4, .keep 0 9, .keep 0 10, .keep 0 11, .boxd 0 4 TyRole])]
def In_spec_l15Role : List (List Nat × Nat) := []
noncomputable def cs_spec_l15Role : List Ctr := []
noncomputable def F_spec_l15Role (n : Nat) (a0 : DRoleSet) (a1 : (List Int)) : Option (DRole × Bool) := run Try.prog A_spec_l15Role In_spec_l15Role (conOf cs_spec_l15Role) Try.f69 (Try.f69.body.getD .skip) (packT [TyRole, .bool]) n (argsV [TyRoleSet, .str] (a0, a1, ()))
noncomputable abbrev L_spec_l15Role_0_2 (n : Nat) (x1 : (List Int)) (x2 : (List DRole)) (x3 : Int) (x4 : Int) (x5 : DRole) : Option (DRole × Bool) := lam Try.prog A_spec_l15Role In_spec_l15Role (conOf cs_spec_l15Role) Try.f69 (Try.f69.body.getD .skip) (packT [TyRole, .bool]) n [0, 2] [.d .str x1, .ptr 0 4 0, .d (.list TyRole) x2, .d I64 x3, .d I64 x4, .agg (explode TyRole x5)]
theorem F_spec_l15Role_eq (n : Nat) (a0 : DRoleSet) (a1 : (List Int)) : F_spec_l15Role n a0 a1 =
    L_spec_l15Role_0_2 n a1 a0.1 (a0.1.length : Int) 0 (([] : List Int), [], []) := by kernel_rfl
theorem L_spec_l15Role_0_2_eq (n : Nat) (x1 : (List Int)) (x2 : (List DRole)) (x3 : Int) (x4 : Int) (x5 : DRole) : L_spec_l15Role_0_2 (n + 1) x1 x2 x3 x4 x5 =
    bif decide (x4 < x3) then
      bif inB x4 x2.length then
        bif decide ((rd x2 x4 (Ty.dflt TyRole)).1 = x1) then
          some ((rd x2 x4 (Ty.dflt TyRole)), true)
        else
          L_spec_l15Role_0_2 n x1 x2 x3 (IntKind.wrap .i64 (x4 + 1)) x5
      else none
    else
      some ((([] : List Int), [], []), false) := by kernel_rfl
theorem S_spec_l15Role_0_2 {x1 : (List Int)} {x2 : (List DRole)} {x5 : DRole} (hl : x2.length ≤ maxLen) : ∀ (rest : List DRole) (k : Nat) (r : (DRole × Bool)), rest = x2.drop k → P_spec_l15Role_0_2 x1 rest = some r → Ev (fun n => L_spec_l15Role_0_2 n x1 x2 (x2.length : Int) (k : Int) x5) r := by
  intro rest
  induction rest with
  | nil =>
    intro k r hr h
    have hk := drop_nil hr
    rw [P_spec_l15Role_0_2] at h
    refine Ev.step ?_ (fun n => L_spec_l15Role_0_2_eq n x1 x2 (x2.length : Int) (k : Int) x5)
    rw [show decide ((k : Int) < (x2.length : Int)) = false from decide_eq_false (by omega)]
    exact Ev.neg rfl (Ev.ofSome h)
  | cons e rest ih =>
    intro k r hr h
    obtain ⟨hk, hx, hr2⟩ := drop_cons (d := (Ty.dflt TyRole)) hr
    have hw := wrap_succ hl hk
    have ih2 : ∀ (r : (DRole × Bool)), P_spec_l15Role_0_2 x1 rest = some r → Ev (fun n => L_spec_l15Role_0_2 n x1 x2 (x2.length : Int) (IntKind.wrap .i64 ((k : Int) + 1)) x5) r := by
      intro r h; rw [hw]; exact ih (k + 1) r hr2 h
    rw [P_spec_l15Role_0_2] at h
    refine Ev.step ?_ (fun n => L_spec_l15Role_0_2_eq n x1 x2 (x2.length : Int) (k : Int) x5)
    rw [show decide ((k : Int) < (x2.length : Int)) = true from decide_eq_true (by omega), inB_nat2 hk, hx]
    exact Ev.pos rfl (Ev.pos rfl (Ev.ofBif h (fun h => (Ev.ofSome h)) (fun h => (ih2  _ h))))
theorem S_spec_l15Role (a0 : DRoleSet) (a1 : (List Int)) {r : (DRole × Bool)} (h : P_spec_l15Role a0 a1 = some r) : Ev (fun n => F_spec_l15Role n a0 a1) r := by
  rw [P_spec_l15Role] at h
  refine Ev.of_eq ?_ (fun n => F_spec_l15Role_eq n a0 a1)
  exact (Ev.ofLen h fun hl h => S_spec_l15Role_0_2 hl _ (0 : Nat) _ rfl h)
theorem hcs_spec_l15Role : ∀ x ∈ cs_spec_l15Role, CtrOk Try.prog x := conOf_nil
theorem ok_spec_l15Role : CtrOk Try.prog (c_spec_l15Role) := by
  refine ctr_of_run (c := c_spec_l15Role) (by kernel_rfl) (by kernel_rfl : Try.prog.funcs[69]? = some Try.f69) (code := Try.f69.body.getD .skip) (by kernel_rfl) (by kernel_rfl) (by kernel_rfl) (A := A_spec_l15Role) (I := In_spec_l15Role) (hcs_spec_l15Role) ?_
  rintro ⟨a0, a1, u⟩ y hy
  exact (S_spec_l15Role a0 a1 hy).get

/-! ## spec.l1CmpNum (130) -/
noncomputable def T_spec_l1CmpNum (a0 : Int) (a1 : Int) : Int :=
  bif decide (a0 < a1) then
    (-1)
  else
    bif decide (a1 < a0) then
      1
    else
      0
noncomputable def c_spec_l1CmpNum : Ctr := ⟨130, [I64, I64], [I64], fun x => some (T_spec_l1CmpNum x.1 x.2.1)⟩
def A_spec_l1CmpNum : List (List Nat × Ann) := []
def In_spec_l1CmpNum : List (List Nat × Nat) := []
noncomputable def cs_spec_l1CmpNum : List Ctr := []
noncomputable def F_spec_l1CmpNum (n : Nat) (a0 : Int) (a1 : Int) : Option Int := run Try.prog A_spec_l1CmpNum In_spec_l1CmpNum (conOf cs_spec_l1CmpNum) Try.f130 (Try.f130.body.getD .skip) (packT [I64]) n (argsV [I64, I64] (a0, a1, ()))
theorem F_spec_l1CmpNum_eq (n : Nat) (a0 : Int) (a1 : Int) : F_spec_l1CmpNum n a0 a1 =
    bif decide (a0 < a1) then
      some (-1)
    else
      bif decide (a1 < a0) then
        some 1
      else
        some 0 := by kernel_rfl
theorem S_spec_l1CmpNum (n : Nat) (a0 : Int) (a1 : Int) : F_spec_l1CmpNum n a0 a1 = some (T_spec_l1CmpNum a0 a1) := (F_spec_l1CmpNum_eq n a0 a1).trans (cond_some rfl (cond_some rfl rfl))
theorem hcs_spec_l1CmpNum : ∀ x ∈ cs_spec_l1CmpNum, CtrOk Try.prog x := conOf_nil
theorem ok_spec_l1CmpNum : CtrOk Try.prog (c_spec_l1CmpNum) := by
  refine ctr_of_run (c := c_spec_l1CmpNum) (by kernel_rfl) (by kernel_rfl : Try.prog.funcs[130]? = some Try.f130) (code := Try.f130.body.getD .skip) (by kernel_rfl) (by kernel_rfl) (by kernel_rfl) (A := A_spec_l1CmpNum) (I := In_spec_l1CmpNum) (hcs_spec_l1CmpNum) ?_
  rintro ⟨a0, a1, u⟩ y hy
  exact ⟨0, (S_spec_l1CmpNum 0 a0 a1).trans hy⟩

/-! ## spec.l1CmpText (102) -/
noncomputable def P_spec_l1CmpText_0_2 (x1 : (List Int)) (x2 : (List Int)) : List Int → Nat → Option Int
  | [], k =>
      some (T_spec_l1CmpNum (x1.length : Int) (x2.length : Int))
  | e :: rest, k =>
      bif decide ((k : Int) < (x2.length : Int)) then
        bif inB (k : Int) x2.length then
          bif !decide (e = rd x2 (k : Int) 0) then
            bif inB (k : Int) x2.length then
              some (T_spec_l1CmpNum (IntKind.wrap .i64 (e)) (IntKind.wrap .i64 (rd x2 (k : Int) 0)))
            else none
          else
            P_spec_l1CmpText_0_2 x1 x2 rest (k + 1)
        else none
      else
        some (T_spec_l1CmpNum (x1.length : Int) (x2.length : Int))
noncomputable def P_spec_l1CmpText (a0 : (List Int)) (a1 : (List Int)) : Option Int :=
  lenOk a0 (P_spec_l1CmpText_0_2 a0 a1 a0 0)
noncomputable def c_spec_l1CmpText : Ctr := ⟨102, [.str, .str], [I64], fun x => P_spec_l1CmpText x.1 x.2.1⟩
def A_spec_l1CmpText : List (List Nat × Ann) := [([0, 2], [.keep 0 0, .keep 0 1, .keep 0 5])]
def In_spec_l1CmpText : List (List Nat × Nat) := []
noncomputable def cs_spec_l1CmpText : List Ctr := [c_spec_l1CmpNum]
noncomputable def F_spec_l1CmpText (n : Nat) (a0 : (List Int)) (a1 : (List Int)) : Option Int := run Try.prog A_spec_l1CmpText In_spec_l1CmpText (conOf cs_spec_l1CmpText) Try.f102 (Try.f102.body.getD .skip) (packT [I64]) n (argsV [.str, .str] (a0, a1, ()))
noncomputable abbrev L_spec_l1CmpText_0_2 (n : Nat) (x1 : (List Int)) (x2 : (List Int)) (x3 : Int) : Option Int := lam Try.prog A_spec_l1CmpText In_spec_l1CmpText (conOf cs_spec_l1CmpText) Try.f102 (Try.f102.body.getD .skip) (packT [I64]) n [0, 2] [.d .str x1, .d .str x2, .d I64 x3]
theorem F_spec_l1CmpText_eq (n : Nat) (a0 : (List Int)) (a1 : (List Int)) : F_spec_l1CmpText n a0 a1 =
    L_spec_l1CmpText_0_2 n a0 a1 0 := by kernel_rfl
theorem L_spec_l1CmpText_0_2_eq (n : Nat) (x1 : (List Int)) (x2 : (List Int)) (x3 : Int) : L_spec_l1CmpText_0_2 (n + 1) x1 x2 x3 =
    bif decide (x3 < (x1.length : Int)) then
      bif decide (x3 < (x2.length : Int)) then
        bif inB x3 x1.length then
          bif inB x3 x2.length then
            bif !decide (rd x1 x3 0 = rd x2 x3 0) then
              bif inB x3 x1.length then
                bif inB x3 x2.length then
                  some (T_spec_l1CmpNum (IntKind.wrap .i64 (rd x1 x3 0)) (IntKind.wrap .i64 (rd x2 x3 0)))
                else none
              else none
            else
              L_spec_l1CmpText_0_2 n x1 x2 (IntKind.wrap .i64 (x3 + 1))
          else none
        else none
      else
        some (T_spec_l1CmpNum (x1.length : Int) (x2.length : Int))
    else
      some (T_spec_l1CmpNum (x1.length : Int) (x2.length : Int)) := by kernel_rfl
theorem S_spec_l1CmpText_0_2 {x1 : (List Int)} {x2 : (List Int)} (hl : x1.length ≤ maxLen) : ∀ (rest : List Int) (k : Nat) (r : Int), rest = x1.drop k → P_spec_l1CmpText_0_2 x1 x2 rest k = some r → Ev (fun n => L_spec_l1CmpText_0_2 n x1 x2 (k : Int)) r := by
  intro rest
  induction rest with
  | nil =>
    intro k r hr h
    have hk := drop_nil hr
    rw [P_spec_l1CmpText_0_2] at h
    refine Ev.step ?_ (fun n => L_spec_l1CmpText_0_2_eq n x1 x2 (k : Int))
    rw [show decide ((k : Int) < (x1.length : Int)) = false from decide_eq_false (by omega)]
    exact Ev.neg rfl (Ev.ofSome h)
  | cons e rest ih =>
    intro k r hr h
    obtain ⟨hk, hx, hr2⟩ := drop_cons (d := 0) hr
    have hw := wrap_succ hl hk
    have ih2 : ∀ (r : Int), P_spec_l1CmpText_0_2 x1 x2 rest (k + 1) = some r → Ev (fun n => L_spec_l1CmpText_0_2 n x1 x2 (IntKind.wrap .i64 ((k : Int) + 1))) r := by
      intro r h; rw [hw]; exact ih (k + 1) r hr2 h
    rw [P_spec_l1CmpText_0_2] at h
    refine Ev.step ?_ (fun n => L_spec_l1CmpText_0_2_eq n x1 x2 (k : Int))
    rw [show decide ((k : Int) < (x1.length : Int)) = true from decide_eq_true (by omega), inB_nat2 hk, hx]
    exact Ev.pos rfl (Ev.ofBif h (fun h => (Ev.pos rfl (Ev.ofBif h (fun h => (Ev.ofBif h (fun h => (Ev.pos rfl (Ev.ofBif h (fun h => (Ev.ofSome h)) (fun h => (Ev.ofNone h))))) (fun h => (ih2  _ h)))) (fun h => (Ev.ofNone h))))) (fun h => (Ev.ofSome h)))
theorem S_spec_l1CmpText (a0 : (List Int)) (a1 : (List Int)) {r : Int} (h : P_spec_l1CmpText a0 a1 = some r) : Ev (fun n => F_spec_l1CmpText n a0 a1) r := by
  rw [P_spec_l1CmpText] at h
  refine Ev.of_eq ?_ (fun n => F_spec_l1CmpText_eq n a0 a1)
  exact (Ev.ofLen h fun hl h => S_spec_l1CmpText_0_2 hl _ (0 : Nat) _ rfl h)
theorem hcs_spec_l1CmpText : ∀ x ∈ cs_spec_l1CmpText, CtrOk Try.prog x := (conOf_cons ok_spec_l1CmpNum conOf_nil)
theorem ok_spec_l1CmpText : CtrOk Try.prog (c_spec_l1CmpText) := by
  refine ctr_of_run (c := c_spec_l1CmpText) (by kernel_rfl) (by kernel_rfl : Try.prog.funcs[102]? = some Try.f102) (code := Try.f102.body.getD .skip) (by kernel_rfl) (by kernel_rfl) (by kernel_rfl) (A := A_spec_l1CmpText) (I := In_spec_l1CmpText) (hcs_spec_l1CmpText) ?_
  rintro ⟨a0, a1, u⟩ y hy
  exact (S_spec_l1CmpText a0 a1 hy).get

/-! ## spec.l3Rising (103) -/
noncomputable def P_spec_l3Rising_0_2 (x1 : (List (List Int))) : List (List Int) → Nat → Option Bool
  | [], k =>
      some true
  | e :: rest, k =>
      bif inB (IntKind.wrap .i64 ((k : Int) - 1)) x1.length then
        Option.bind (P_spec_l1CmpText (rd x1 (IntKind.wrap .i64 ((k : Int) - 1)) (Ty.dflt .str)) (e)) fun (y1 : Int) =>
        bif decide ((0 : Int) ≤ y1) then
          some false
        else
          P_spec_l3Rising_0_2 x1 rest (k + 1)
      else none
noncomputable def P_spec_l3Rising (a0 : (List (List Int))) : Option Bool :=
  lenOk a0 (P_spec_l3Rising_0_2 a0 (a0.drop 1) 1)
noncomputable def c_spec_l3Rising : Ctr := ⟨103, [(.list .str)], [.bool], fun x => P_spec_l3Rising x.1⟩
def A_spec_l3Rising : List (List Nat × Ann) := [([0, 2], [.keep 0 0, .keep 0 3])]
def In_spec_l3Rising : List (List Nat × Nat) := []
noncomputable def cs_spec_l3Rising : List Ctr := [c_spec_l1CmpText]
noncomputable def F_spec_l3Rising (n : Nat) (a0 : (List (List Int))) : Option Bool := run Try.prog A_spec_l3Rising In_spec_l3Rising (conOf cs_spec_l3Rising) Try.f103 (Try.f103.body.getD .skip) (packT [.bool]) n (argsV [(.list .str)] (a0, ()))
noncomputable abbrev L_spec_l3Rising_0_2 (n : Nat) (x1 : (List (List Int))) (x2 : Int) : Option Bool := lam Try.prog A_spec_l3Rising In_spec_l3Rising (conOf cs_spec_l3Rising) Try.f103 (Try.f103.body.getD .skip) (packT [.bool]) n [0, 2] [.d (.list .str) x1, .d I64 x2]
theorem F_spec_l3Rising_eq (n : Nat) (a0 : (List (List Int))) : F_spec_l3Rising n a0 =
    L_spec_l3Rising_0_2 n a0 1 := by kernel_rfl
theorem L_spec_l3Rising_0_2_eq (n : Nat) (x1 : (List (List Int))) (x2 : Int) : L_spec_l3Rising_0_2 (n + 1) x1 x2 =
    bif decide (x2 < (x1.length : Int)) then
      bif inB (IntKind.wrap .i64 (x2 - 1)) x1.length then
        bif inB x2 x1.length then
          Option.bind (P_spec_l1CmpText (rd x1 (IntKind.wrap .i64 (x2 - 1)) (Ty.dflt .str)) (rd x1 x2 (Ty.dflt .str))) fun (y1 : Int) =>
          bif decide ((0 : Int) ≤ y1) then
            some false
          else
            L_spec_l3Rising_0_2 n x1 (IntKind.wrap .i64 (x2 + 1))
        else none
      else none
    else
      some true := by kernel_rfl
theorem S_spec_l3Rising_0_2 {x1 : (List (List Int))} (hl : x1.length ≤ maxLen) : ∀ (rest : List (List Int)) (k : Nat) (r : Bool), rest = x1.drop k → P_spec_l3Rising_0_2 x1 rest k = some r → Ev (fun n => L_spec_l3Rising_0_2 n x1 (k : Int)) r := by
  intro rest
  induction rest with
  | nil =>
    intro k r hr h
    have hk := drop_nil hr
    rw [P_spec_l3Rising_0_2] at h
    refine Ev.step ?_ (fun n => L_spec_l3Rising_0_2_eq n x1 (k : Int))
    rw [show decide ((k : Int) < (x1.length : Int)) = false from decide_eq_false (by omega)]
    exact Ev.neg rfl (Ev.ofSome h)
  | cons e rest ih =>
    intro k r hr h
    obtain ⟨hk, hx, hr2⟩ := drop_cons (d := (Ty.dflt .str)) hr
    have hw := wrap_succ hl hk
    have ih2 : ∀ (r : Bool), P_spec_l3Rising_0_2 x1 rest (k + 1) = some r → Ev (fun n => L_spec_l3Rising_0_2 n x1 (IntKind.wrap .i64 ((k : Int) + 1))) r := by
      intro r h; rw [hw]; exact ih (k + 1) r hr2 h
    rw [P_spec_l3Rising_0_2] at h
    refine Ev.step ?_ (fun n => L_spec_l3Rising_0_2_eq n x1 (k : Int))
    rw [show decide ((k : Int) < (x1.length : Int)) = true from decide_eq_true (by omega), inB_nat2 hk, hx]
    exact Ev.pos rfl (Ev.ofBif h (fun h => (Ev.pos rfl (Ev.ofBind h fun y1 h => (Ev.ofBif h (fun h => (Ev.ofSome h)) (fun h => (ih2  _ h)))))) (fun h => (Ev.ofNone h)))
theorem S_spec_l3Rising (a0 : (List (List Int))) {r : Bool} (h : P_spec_l3Rising a0 = some r) : Ev (fun n => F_spec_l3Rising n a0) r := by
  rw [P_spec_l3Rising] at h
  refine Ev.of_eq ?_ (fun n => F_spec_l3Rising_eq n a0)
  exact (Ev.ofLen h fun hl h => S_spec_l3Rising_0_2 hl _ (1 : Nat) _ rfl h)
theorem hcs_spec_l3Rising : ∀ x ∈ cs_spec_l3Rising, CtrOk Try.prog x := (conOf_cons ok_spec_l1CmpText conOf_nil)
theorem ok_spec_l3Rising : CtrOk Try.prog (c_spec_l3Rising) := by
  refine ctr_of_run (c := c_spec_l3Rising) (by kernel_rfl) (by kernel_rfl : Try.prog.funcs[103]? = some Try.f103) (code := Try.f103.body.getD .skip) (by kernel_rfl) (by kernel_rfl) (by kernel_rfl) (A := A_spec_l3Rising) (I := In_spec_l3Rising) (hcs_spec_l3Rising) ?_
  rintro ⟨a0, u⟩ y hy
  exact (S_spec_l3Rising a0 hy).get

/-! ## spec.l15All (101) -/
noncomputable def P_spec_l15All_0_2 (x1 : (List (List Int))) (x5 : DRoleSet) : List (List Int) → Option Bool
  | [] =>
      Option.bind (P_spec_l3Rising x1) fun (y2 : Bool) =>
      some y2
  | e :: rest =>
      Option.bind (P_spec_l15Role x5 (e)) fun (y1 : (DRole × Bool)) =>
      bif !(y1.2) then
        some false
      else
        P_spec_l15All_0_2 x1 x5 rest
noncomputable def P_spec_l15All (a0 : DRoleSet) (a1 : (List (List Int))) : Option Bool :=
  lenOk a1 (P_spec_l15All_0_2 a1 a0 a1)
noncomputable def c_spec_l15All : Ctr := ⟨101, [TyRoleSet, (.list .str)], [.bool], fun x => P_spec_l15All x.1 x.2.1⟩
def A_spec_l15All : List (List Nat × Ann) := [([0, 2], [.keep 0 1, .keep 0 2, .keep 0 9, .keep 0 10, .keep 0 11, .boxd 0 2 TyRoleSet])]
def In_spec_l15All : List (List Nat × Nat) := []
noncomputable def cs_spec_l15All : List Ctr := [c_spec_l15Role, c_spec_l3Rising]
noncomputable def F_spec_l15All (n : Nat) (a0 : DRoleSet) (a1 : (List (List Int))) : Option Bool := run Try.prog A_spec_l15All In_spec_l15All (conOf cs_spec_l15All) Try.f101 (Try.f101.body.getD .skip) (packT [.bool]) n (argsV [TyRoleSet, (.list .str)] (a0, a1, ()))
noncomputable abbrev L_spec_l15All_0_2 (n : Nat) (x1 : (List (List Int))) (x2 : (List (List Int))) (x3 : Int) (x4 : Int) (x5 : DRoleSet) : Option Bool := lam Try.prog A_spec_l15All In_spec_l15All (conOf cs_spec_l15All) Try.f101 (Try.f101.body.getD .skip) (packT [.bool]) n [0, 2] [.d (.list .str) x1, .ptr 0 2 0, .d (.list .str) x2, .d I64 x3, .d I64 x4, .agg (explode TyRoleSet x5)]
theorem F_spec_l15All_eq (n : Nat) (a0 : DRoleSet) (a1 : (List (List Int))) : F_spec_l15All n a0 a1 =
    L_spec_l15All_0_2 n a1 a1 (a1.length : Int) 0 a0 := by kernel_rfl
theorem L_spec_l15All_0_2_eq (n : Nat) (x1 : (List (List Int))) (x2 : (List (List Int))) (x3 : Int) (x4 : Int) (x5 : DRoleSet) : L_spec_l15All_0_2 (n + 1) x1 x2 x3 x4 x5 =
    bif decide (x4 < x3) then
      bif inB x4 x2.length then
        Option.bind (P_spec_l15Role x5 (rd x2 x4 (Ty.dflt .str))) fun (y1 : (DRole × Bool)) =>
        bif !(y1.2) then
          some false
        else
          L_spec_l15All_0_2 n x1 x2 x3 (IntKind.wrap .i64 (x4 + 1)) x5
      else none
    else
      Option.bind (P_spec_l3Rising x1) fun (y2 : Bool) =>
      some y2 := by kernel_rfl
theorem S_spec_l15All_0_2 {x1 : (List (List Int))} {x5 : DRoleSet} (hl : x1.length ≤ maxLen) : ∀ (rest : List (List Int)) (k : Nat) (r : Bool), rest = x1.drop k → P_spec_l15All_0_2 x1 x5 rest = some r → Ev (fun n => L_spec_l15All_0_2 n x1 x1 (x1.length : Int) (k : Int) x5) r := by
  intro rest
  induction rest with
  | nil =>
    intro k r hr h
    have hk := drop_nil hr
    rw [P_spec_l15All_0_2] at h
    refine Ev.step ?_ (fun n => L_spec_l15All_0_2_eq n x1 x1 (x1.length : Int) (k : Int) x5)
    rw [show decide ((k : Int) < (x1.length : Int)) = false from decide_eq_false (by omega)]
    exact Ev.neg rfl (Ev.ofBind h fun y2 h => (Ev.ofSome h))
  | cons e rest ih =>
    intro k r hr h
    obtain ⟨hk, hx, hr2⟩ := drop_cons (d := (Ty.dflt .str)) hr
    have hw := wrap_succ hl hk
    have ih2 : ∀ (r : Bool), P_spec_l15All_0_2 x1 x5 rest = some r → Ev (fun n => L_spec_l15All_0_2 n x1 x1 (x1.length : Int) (IntKind.wrap .i64 ((k : Int) + 1)) x5) r := by
      intro r h; rw [hw]; exact ih (k + 1) r hr2 h
    rw [P_spec_l15All_0_2] at h
    refine Ev.step ?_ (fun n => L_spec_l15All_0_2_eq n x1 x1 (x1.length : Int) (k : Int) x5)
    rw [show decide ((k : Int) < (x1.length : Int)) = true from decide_eq_true (by omega), inB_nat2 hk, hx]
    exact Ev.pos rfl (Ev.pos rfl (Ev.ofBind h fun y1 h => (Ev.ofBif h (fun h => (Ev.ofSome h)) (fun h => (ih2  _ h)))))
theorem S_spec_l15All (a0 : DRoleSet) (a1 : (List (List Int))) {r : Bool} (h : P_spec_l15All a0 a1 = some r) : Ev (fun n => F_spec_l15All n a0 a1) r := by
  rw [P_spec_l15All] at h
  refine Ev.of_eq ?_ (fun n => F_spec_l15All_eq n a0 a1)
  exact (Ev.ofLen h fun hl h => S_spec_l15All_0_2 hl _ (0 : Nat) _ rfl h)
theorem hcs_spec_l15All : ∀ x ∈ cs_spec_l15All, CtrOk Try.prog x := (conOf_cons ok_spec_l15Role (conOf_cons ok_spec_l3Rising conOf_nil))
theorem ok_spec_l15All : CtrOk Try.prog (c_spec_l15All) := by
  refine ctr_of_run (c := c_spec_l15All) (by kernel_rfl) (by kernel_rfl : Try.prog.funcs[101]? = some Try.f101) (code := Try.f101.body.getD .skip) (by kernel_rfl) (by kernel_rfl) (by kernel_rfl) (A := A_spec_l15All) (I := In_spec_l15All) (hcs_spec_l15All) ?_
  rintro ⟨a0, a1, u⟩ y hy
  exact (S_spec_l15All a0 a1 hy).get

/-! ## spec.l1Digit (135) -/
noncomputable def T_spec_l1Digit (a0 : Int) : Bool :=
  bif decide ((48 : Int) ≤ a0) then
    decide (a0 ≤ 57)
  else
    false
noncomputable def c_spec_l1Digit : Ctr := ⟨135, [U8], [.bool], fun x => some (T_spec_l1Digit x.1)⟩
def A_spec_l1Digit : List (List Nat × Ann) := []
def In_spec_l1Digit : List (List Nat × Nat) := []
noncomputable def cs_spec_l1Digit : List Ctr := []
noncomputable def F_spec_l1Digit (n : Nat) (a0 : Int) : Option Bool := run Try.prog A_spec_l1Digit In_spec_l1Digit (conOf cs_spec_l1Digit) Try.f135 (Try.f135.body.getD .skip) (packT [.bool]) n (argsV [U8] (a0, ()))
theorem F_spec_l1Digit_eq (n : Nat) (a0 : Int) : F_spec_l1Digit n a0 =
    bif decide ((48 : Int) ≤ a0) then
      some (decide (a0 ≤ 57))
    else
      some false := by kernel_rfl
theorem S_spec_l1Digit (n : Nat) (a0 : Int) : F_spec_l1Digit n a0 = some (T_spec_l1Digit a0) := (F_spec_l1Digit_eq n a0).trans (cond_some rfl rfl)
theorem hcs_spec_l1Digit : ∀ x ∈ cs_spec_l1Digit, CtrOk Try.prog x := conOf_nil
theorem ok_spec_l1Digit : CtrOk Try.prog (c_spec_l1Digit) := by
  refine ctr_of_run (c := c_spec_l1Digit) (by kernel_rfl) (by kernel_rfl : Try.prog.funcs[135]? = some Try.f135) (code := Try.f135.body.getD .skip) (by kernel_rfl) (by kernel_rfl) (by kernel_rfl) (A := A_spec_l1Digit) (I := In_spec_l1Digit) (hcs_spec_l1Digit) ?_
  rintro ⟨a0, u⟩ y hy
  exact ⟨0, (S_spec_l1Digit 0 a0).trans hy⟩

/-! ## spec.l1Letter (136) -/
noncomputable def T_spec_l1Letter (a0 : Int) : Bool :=
  bif decide ((97 : Int) ≤ a0) then
    bif decide (a0 ≤ 122) then
      true
    else
      bif decide ((65 : Int) ≤ a0) then
        decide (a0 ≤ 90)
      else
        false
  else
    bif decide ((65 : Int) ≤ a0) then
      decide (a0 ≤ 90)
    else
      false
noncomputable def c_spec_l1Letter : Ctr := ⟨136, [U8], [.bool], fun x => some (T_spec_l1Letter x.1)⟩
def A_spec_l1Letter : List (List Nat × Ann) := []
def In_spec_l1Letter : List (List Nat × Nat) := []
noncomputable def cs_spec_l1Letter : List Ctr := []
noncomputable def F_spec_l1Letter (n : Nat) (a0 : Int) : Option Bool := run Try.prog A_spec_l1Letter In_spec_l1Letter (conOf cs_spec_l1Letter) Try.f136 (Try.f136.body.getD .skip) (packT [.bool]) n (argsV [U8] (a0, ()))
theorem F_spec_l1Letter_eq (n : Nat) (a0 : Int) : F_spec_l1Letter n a0 =
    bif decide ((97 : Int) ≤ a0) then
      bif decide (a0 ≤ 122) then
        some true
      else
        bif decide ((65 : Int) ≤ a0) then
          some (decide (a0 ≤ 90))
        else
          some false
    else
      bif decide ((65 : Int) ≤ a0) then
        some (decide (a0 ≤ 90))
      else
        some false := by kernel_rfl
theorem S_spec_l1Letter (n : Nat) (a0 : Int) : F_spec_l1Letter n a0 = some (T_spec_l1Letter a0) := (F_spec_l1Letter_eq n a0).trans (cond_some (cond_some rfl (cond_some rfl rfl)) (cond_some rfl rfl))
theorem hcs_spec_l1Letter : ∀ x ∈ cs_spec_l1Letter, CtrOk Try.prog x := conOf_nil
theorem ok_spec_l1Letter : CtrOk Try.prog (c_spec_l1Letter) := by
  refine ctr_of_run (c := c_spec_l1Letter) (by kernel_rfl) (by kernel_rfl : Try.prog.funcs[136]? = some Try.f136) (code := Try.f136.body.getD .skip) (by kernel_rfl) (by kernel_rfl) (by kernel_rfl) (A := A_spec_l1Letter) (I := In_spec_l1Letter) (hcs_spec_l1Letter) ?_
  rintro ⟨a0, u⟩ y hy
  exact ⟨0, (S_spec_l1Letter 0 a0).trans hy⟩

/-! ## spec.GoodName (82) -/
noncomputable def P_spec_GoodName_0_4 : List Int → Option Bool
  | [] =>
      some true
  | e :: rest =>
      bif !(T_spec_l1Letter (e)) then
        bif !(T_spec_l1Digit (e)) then
          bif !decide (e = 95) then
            some false
          else
            P_spec_GoodName_0_4 rest
        else
          P_spec_GoodName_0_4 rest
      else
        P_spec_GoodName_0_4 rest
noncomputable def P_spec_GoodName (a0 : (List Int)) : Option Bool :=
  bif decide ((a0.length : Int) < 1) then
    some false
  else
    bif decide ((30 : Int) < (a0.length : Int)) then
      some false
    else
      bif inB 0 a0.length then
        bif T_spec_l1Digit (rd a0 0 0) then
          some false
        else
          lenOk a0 (P_spec_GoodName_0_4 a0)
      else none
noncomputable def c_spec_GoodName : Ctr := ⟨82, [.str], [.bool], fun x => P_spec_GoodName x.1⟩
def A_spec_GoodName : List (List Nat × Ann) := [([0, 4], [.keep 0 0, .keep 0 3])]
def In_spec_GoodName : List (List Nat × Nat) := []
noncomputable def cs_spec_GoodName : List Ctr := [c_spec_l1Digit, c_spec_l1Letter]
noncomputable def F_spec_GoodName (n : Nat) (a0 : (List Int)) : Option Bool := run Try.prog A_spec_GoodName In_spec_GoodName (conOf cs_spec_GoodName) Try.f82 (Try.f82.body.getD .skip) (packT [.bool]) n (argsV [.str] (a0, ()))
noncomputable abbrev L_spec_GoodName_0_4 (n : Nat) (x1 : (List Int)) (x2 : Int) : Option Bool := lam Try.prog A_spec_GoodName In_spec_GoodName (conOf cs_spec_GoodName) Try.f82 (Try.f82.body.getD .skip) (packT [.bool]) n [0, 4] [.d .str x1, .d I64 x2]
theorem F_spec_GoodName_eq (n : Nat) (a0 : (List Int)) : F_spec_GoodName n a0 =
    bif decide ((a0.length : Int) < 1) then
      some false
    else
      bif decide ((30 : Int) < (a0.length : Int)) then
        some false
      else
        bif inB 0 a0.length then
          bif T_spec_l1Digit (rd a0 0 0) then
            some false
          else
            L_spec_GoodName_0_4 n a0 0
        else none := by kernel_rfl
theorem L_spec_GoodName_0_4_eq (n : Nat) (x1 : (List Int)) (x2 : Int) : L_spec_GoodName_0_4 (n + 1) x1 x2 =
    bif decide (x2 < (x1.length : Int)) then
      bif inB x2 x1.length then
        bif !(T_spec_l1Letter (rd x1 x2 0)) then
          bif inB x2 x1.length then
            bif !(T_spec_l1Digit (rd x1 x2 0)) then
              bif inB x2 x1.length then
                bif !decide (rd x1 x2 0 = 95) then
                  some false
                else
                  L_spec_GoodName_0_4 n x1 (IntKind.wrap .i64 (x2 + 1))
              else none
            else
              L_spec_GoodName_0_4 n x1 (IntKind.wrap .i64 (x2 + 1))
          else none
        else
          L_spec_GoodName_0_4 n x1 (IntKind.wrap .i64 (x2 + 1))
      else none
    else
      some true := by kernel_rfl
theorem S_spec_GoodName_0_4 {x1 : (List Int)} (hl : x1.length ≤ maxLen) : ∀ (rest : List Int) (k : Nat) (r : Bool), rest = x1.drop k → P_spec_GoodName_0_4 rest = some r → Ev (fun n => L_spec_GoodName_0_4 n x1 (k : Int)) r := by
  intro rest
  induction rest with
  | nil =>
    intro k r hr h
    have hk := drop_nil hr
    rw [P_spec_GoodName_0_4] at h
    refine Ev.step ?_ (fun n => L_spec_GoodName_0_4_eq n x1 (k : Int))
    rw [show decide ((k : Int) < (x1.length : Int)) = false from decide_eq_false (by omega)]
    exact Ev.neg rfl (Ev.ofSome h)
  | cons e rest ih =>
    intro k r hr h
    obtain ⟨hk, hx, hr2⟩ := drop_cons (d := 0) hr
    have hw := wrap_succ hl hk
    have ih2 : ∀ (r : Bool), P_spec_GoodName_0_4 rest = some r → Ev (fun n => L_spec_GoodName_0_4 n x1 (IntKind.wrap .i64 ((k : Int) + 1))) r := by
      intro r h; rw [hw]; exact ih (k + 1) r hr2 h
    rw [P_spec_GoodName_0_4] at h
    refine Ev.step ?_ (fun n => L_spec_GoodName_0_4_eq n x1 (k : Int))
    rw [show decide ((k : Int) < (x1.length : Int)) = true from decide_eq_true (by omega), inB_nat2 hk, hx]
    exact Ev.pos rfl (Ev.pos rfl (Ev.ofBif h (fun h => (Ev.pos rfl (Ev.ofBif h (fun h => (Ev.pos rfl (Ev.ofBif h (fun h => (Ev.ofSome h)) (fun h => (ih2  _ h))))) (fun h => (ih2  _ h))))) (fun h => (ih2  _ h))))
theorem S_spec_GoodName (a0 : (List Int)) {r : Bool} (h : P_spec_GoodName a0 = some r) : Ev (fun n => F_spec_GoodName n a0) r := by
  rw [P_spec_GoodName] at h
  refine Ev.of_eq ?_ (fun n => F_spec_GoodName_eq n a0)
  exact (Ev.ofBif h (fun h => (Ev.ofSome h)) (fun h => (Ev.ofBif h (fun h => (Ev.ofSome h)) (fun h => (Ev.ofBif h (fun h => (Ev.ofBif h (fun h => (Ev.ofSome h)) (fun h => (Ev.ofLen h fun hl h => S_spec_GoodName_0_4 hl _ (0 : Nat) _ rfl h)))) (fun h => (Ev.ofNone h)))))))
theorem hcs_spec_GoodName : ∀ x ∈ cs_spec_GoodName, CtrOk Try.prog x := (conOf_cons ok_spec_l1Digit (conOf_cons ok_spec_l1Letter conOf_nil))
theorem ok_spec_GoodName : CtrOk Try.prog (c_spec_GoodName) := by
  refine ctr_of_run (c := c_spec_GoodName) (by kernel_rfl) (by kernel_rfl : Try.prog.funcs[82]? = some Try.f82) (code := Try.f82.body.getD .skip) (by kernel_rfl) (by kernel_rfl) (by kernel_rfl) (A := A_spec_GoodName) (I := In_spec_GoodName) (hcs_spec_GoodName) ?_
  rintro ⟨a0, u⟩ y hy
  exact (S_spec_GoodName a0 hy).get

/-! ## spec.l3Has (48) -/
noncomputable def P_spec_l3Has_0_2 (x1 : (List Int)) : List (List Int) → Option Bool
  | [] =>
      some false
  | e :: rest =>
      bif decide (e = x1) then
        some true
      else
        P_spec_l3Has_0_2 x1 rest
noncomputable def P_spec_l3Has (a0 : (List (List Int))) (a1 : (List Int)) : Option Bool :=
  lenOk a0 (P_spec_l3Has_0_2 a1 a0)
noncomputable def c_spec_l3Has : Ctr := ⟨48, [(.list .str), .str], [.bool], fun x => P_spec_l3Has x.1 x.2.1⟩
def A_spec_l3Has : List (List Nat × Ann) := [([0, 2], [.keep 0 1, .keep 0 7, .keep 0 8, .keep 0 9])]
def In_spec_l3Has : List (List Nat × Nat) := []
noncomputable def cs_spec_l3Has : List Ctr := []
noncomputable def F_spec_l3Has (n : Nat) (a0 : (List (List Int))) (a1 : (List Int)) : Option Bool := run Try.prog A_spec_l3Has In_spec_l3Has (conOf cs_spec_l3Has) Try.f48 (Try.f48.body.getD .skip) (packT [.bool]) n (argsV [(.list .str), .str] (a0, a1, ()))
noncomputable abbrev L_spec_l3Has_0_2 (n : Nat) (x1 : (List Int)) (x2 : (List (List Int))) (x3 : Int) (x4 : Int) : Option Bool := lam Try.prog A_spec_l3Has In_spec_l3Has (conOf cs_spec_l3Has) Try.f48 (Try.f48.body.getD .skip) (packT [.bool]) n [0, 2] [.d .str x1, .d (.list .str) x2, .d I64 x3, .d I64 x4]
theorem F_spec_l3Has_eq (n : Nat) (a0 : (List (List Int))) (a1 : (List Int)) : F_spec_l3Has n a0 a1 =
    L_spec_l3Has_0_2 n a1 a0 (a0.length : Int) 0 := by kernel_rfl
theorem L_spec_l3Has_0_2_eq (n : Nat) (x1 : (List Int)) (x2 : (List (List Int))) (x3 : Int) (x4 : Int) : L_spec_l3Has_0_2 (n + 1) x1 x2 x3 x4 =
    bif decide (x4 < x3) then
      bif inB x4 x2.length then
        bif decide (rd x2 x4 (Ty.dflt .str) = x1) then
          some true
        else
          L_spec_l3Has_0_2 n x1 x2 x3 (IntKind.wrap .i64 (x4 + 1))
      else none
    else
      some false := by kernel_rfl
theorem S_spec_l3Has_0_2 {x1 : (List Int)} {x2 : (List (List Int))} (hl : x2.length ≤ maxLen) : ∀ (rest : List (List Int)) (k : Nat) (r : Bool), rest = x2.drop k → P_spec_l3Has_0_2 x1 rest = some r → Ev (fun n => L_spec_l3Has_0_2 n x1 x2 (x2.length : Int) (k : Int)) r := by
  intro rest
  induction rest with
  | nil =>
    intro k r hr h
    have hk := drop_nil hr
    rw [P_spec_l3Has_0_2] at h
    refine Ev.step ?_ (fun n => L_spec_l3Has_0_2_eq n x1 x2 (x2.length : Int) (k : Int))
    rw [show decide ((k : Int) < (x2.length : Int)) = false from decide_eq_false (by omega)]
    exact Ev.neg rfl (Ev.ofSome h)
  | cons e rest ih =>
    intro k r hr h
    obtain ⟨hk, hx, hr2⟩ := drop_cons (d := (Ty.dflt .str)) hr
    have hw := wrap_succ hl hk
    have ih2 : ∀ (r : Bool), P_spec_l3Has_0_2 x1 rest = some r → Ev (fun n => L_spec_l3Has_0_2 n x1 x2 (x2.length : Int) (IntKind.wrap .i64 ((k : Int) + 1))) r := by
      intro r h; rw [hw]; exact ih (k + 1) r hr2 h
    rw [P_spec_l3Has_0_2] at h
    refine Ev.step ?_ (fun n => L_spec_l3Has_0_2_eq n x1 x2 (x2.length : Int) (k : Int))
    rw [show decide ((k : Int) < (x2.length : Int)) = true from decide_eq_true (by omega), inB_nat2 hk, hx]
    exact Ev.pos rfl (Ev.pos rfl (Ev.ofBif h (fun h => (Ev.ofSome h)) (fun h => (ih2  _ h))))
theorem S_spec_l3Has (a0 : (List (List Int))) (a1 : (List Int)) {r : Bool} (h : P_spec_l3Has a0 a1 = some r) : Ev (fun n => F_spec_l3Has n a0 a1) r := by
  rw [P_spec_l3Has] at h
  refine Ev.of_eq ?_ (fun n => F_spec_l3Has_eq n a0 a1)
  exact (Ev.ofLen h fun hl h => S_spec_l3Has_0_2 hl _ (0 : Nat) _ rfl h)
theorem hcs_spec_l3Has : ∀ x ∈ cs_spec_l3Has, CtrOk Try.prog x := conOf_nil
theorem ok_spec_l3Has : CtrOk Try.prog (c_spec_l3Has) := by
  refine ctr_of_run (c := c_spec_l3Has) (by kernel_rfl) (by kernel_rfl : Try.prog.funcs[48]? = some Try.f48) (code := Try.f48.body.getD .skip) (by kernel_rfl) (by kernel_rfl) (by kernel_rfl) (A := A_spec_l3Has) (I := In_spec_l3Has) (hcs_spec_l3Has) ?_
  rintro ⟨a0, a1, u⟩ y hy
  exact (S_spec_l3Has a0 a1 hy).get

/-! ## spec.l5Sorted (119) -/
noncomputable def P_spec_l5Sorted_0_11 (K0 : (List (List Int)) → Option (List (List Int))) (x2 : (List Int)) (x3 : Int) : Nat → (List (List Int)) → Int → Option (List (List Int))
  | 0, _, _ => none
  | m + 1, x1, x4 =>
      bif decide (x3 < x4) then
        bif inB (IntKind.wrap .i64 (x4 - 1)) x1.length then
          bif inB (IntKind.wrap .i64 (x4 - 1)) x1.length then
            bif inB x4 x1.length then
              bif inB x4 x1.length && true && true && true && true then
                P_spec_l5Sorted_0_11 K0 x2 x3 m (x1.set (Int.toNat x4) (rd x1 (IntKind.wrap .i64 (x4 - 1)) (Ty.dflt .str))) (IntKind.wrap .i64 (x4 - 1))
              else none
            else none
          else none
        else none
      else
        bif inB x3 x1.length then
          bif inB x3 x1.length && true && true && true && true then
            K0 (x1.set (Int.toNat x3) x2)
          else none
        else none
noncomputable def P_spec_l5Sorted_1_8 (K0 : (List (List Int)) → Option (List (List Int))) (m : Nat) (x1 : (List (List Int))) (x2 : (List Int)) (x3 : Int) : Option (List (List Int)) :=
  bif decide ((0 : Int) < x3) then
    bif inB (IntKind.wrap .i64 (x3 - 1)) x1.length then
      bif inB (IntKind.wrap .i64 (x3 - 1)) x1.length then
        bif decide (rd x1 (IntKind.wrap .i64 (x3 - 1)) (Ty.dflt .str) = x2) then
          K0 x1
        else
          bif decide (((x1.length : Int) + (([x2] : List (List Int)).length : Int)) * 16 ≤ room) && decide ((x1.length : Int) + (([x2] : List (List Int)).length : Int) ≤ room) then
            P_spec_l5Sorted_0_11 K0 x2 x3 m (x1 ++ ([x2] : List (List Int))) (IntKind.wrap .i64 (((x1 ++ ([x2] : List (List Int))).length : Int) - 1))
          else none
      else none
    else none
  else
    bif decide (((x1.length : Int) + (([x2] : List (List Int)).length : Int)) * 16 ≤ room) && decide ((x1.length : Int) + (([x2] : List (List Int)).length : Int) ≤ room) then
      P_spec_l5Sorted_0_11 K0 x2 x3 m (x1 ++ ([x2] : List (List Int))) (IntKind.wrap .i64 (((x1 ++ ([x2] : List (List Int))).length : Int) - 1))
    else none
noncomputable def P_spec_l5Sorted_0_6 (K0 : (List (List Int)) → Option (List (List Int))) (x1 : (List (List Int))) (x2 : (List Int)) : Nat → Int → Option (List (List Int))
  | 0, _ => none
  | m + 1, x3 =>
      bif decide ((0 : Int) < x3) then
        bif inB (IntKind.wrap .i64 (x3 - 1)) x1.length then
          bif inB (IntKind.wrap .i64 (x3 - 1)) x1.length then
            Option.bind (P_spec_l1CmpText (rd x1 (IntKind.wrap .i64 (x3 - 1)) (Ty.dflt .str)) x2) fun (y1 : Int) =>
            bif decide ((0 : Int) < y1) then
              P_spec_l5Sorted_0_6 K0 x1 x2 m (IntKind.wrap .i64 (x3 - 1))
            else
              P_spec_l5Sorted_1_8 K0 m x1 x2 x3
          else none
        else none
      else
        P_spec_l5Sorted_1_8 K0 m x1 x2 x3
noncomputable def P_spec_l5Sorted_0_3 (m : Nat) : List (List Int) → (List (List Int)) → Option (List (List Int))
  | [], x1 =>
      some x1
  | e :: rest, x1 =>
      P_spec_l5Sorted_0_6 (fun s0 => P_spec_l5Sorted_0_3 m rest s0) x1 (e) m (x1.length : Int)
noncomputable def P_spec_l5Sorted (m : Nat) (a0 : (List (List Int))) : Option (List (List Int)) :=
  lenOk a0 (P_spec_l5Sorted_0_3 m a0 [])
noncomputable def E_spec_l5Sorted (a0 : (List (List Int))) : Option (List (List Int)) := evOpt fun m => P_spec_l5Sorted m a0
noncomputable def c_spec_l5Sorted : Ctr := ⟨119, [(.list .str)], [(.list .str)], fun x => E_spec_l5Sorted x.1⟩
def A_spec_l5Sorted : List (List Nat × Ann) := [([0, 3], [.raw 0 3 .str, .keep 0 8, .keep 0 9, .keep 0 10]), ([0, 6], [.raw 0 3 .str, .keep 0 5, .keep 0 6, .keep 0 8, .keep 0 9, .keep 0 10]), ([1, 8], [.raw 0 3 .str, .keep 0 5, .keep 0 6, .keep 0 8, .keep 0 9, .keep 0 10]), ([0, 11], [.raw 0 3 .str, .keep 0 5, .keep 0 6, .keep 0 7, .keep 0 8, .keep 0 9, .keep 0 10])]
def In_spec_l5Sorted : List (List Nat × Nat) := []
noncomputable def cs_spec_l5Sorted : List Ctr := [c_spec_l1CmpText]
noncomputable def F_spec_l5Sorted (n : Nat) (a0 : (List (List Int))) : Option (List (List Int)) := run Try.prog A_spec_l5Sorted In_spec_l5Sorted (conOf cs_spec_l5Sorted) Try.f119 (Try.f119.body.getD .skip) (packT [(.list .str)]) n (argsV [(.list .str)] (a0, ()))
noncomputable abbrev L_spec_l5Sorted_0_3 (n : Nat) (x1 : (List (List Int))) (x2 : (List (List Int))) (x3 : Int) (x4 : Int) : Option (List (List Int)) := lam Try.prog A_spec_l5Sorted In_spec_l5Sorted (conOf cs_spec_l5Sorted) Try.f119 (Try.f119.body.getD .skip) (packT [(.list .str)]) n [0, 3] [.own 0 .str x1, .d (.list .str) x2, .d I64 x3, .d I64 x4]
noncomputable abbrev L_spec_l5Sorted_0_6 (n : Nat) (x1 : (List (List Int))) (x2 : (List Int)) (x3 : Int) (x4 : (List (List Int))) (x5 : Int) (x6 : Int) : Option (List (List Int)) := lam Try.prog A_spec_l5Sorted In_spec_l5Sorted (conOf cs_spec_l5Sorted) Try.f119 (Try.f119.body.getD .skip) (packT [(.list .str)]) n [0, 6] [.own 0 .str x1, .d .str x2, .d I64 x3, .d (.list .str) x4, .d I64 x5, .d I64 x6]
noncomputable abbrev L_spec_l5Sorted_1_8 (n : Nat) (x1 : (List (List Int))) (x2 : (List Int)) (x3 : Int) (x4 : (List (List Int))) (x5 : Int) (x6 : Int) : Option (List (List Int)) := lam Try.prog A_spec_l5Sorted In_spec_l5Sorted (conOf cs_spec_l5Sorted) Try.f119 (Try.f119.body.getD .skip) (packT [(.list .str)]) n [1, 8] [.own 0 .str x1, .d .str x2, .d I64 x3, .d (.list .str) x4, .d I64 x5, .d I64 x6]
noncomputable abbrev L_spec_l5Sorted_0_11 (n : Nat) (x1 : (List (List Int))) (x2 : (List Int)) (x3 : Int) (x4 : Int) (x5 : (List (List Int))) (x6 : Int) (x7 : Int) : Option (List (List Int)) := lam Try.prog A_spec_l5Sorted In_spec_l5Sorted (conOf cs_spec_l5Sorted) Try.f119 (Try.f119.body.getD .skip) (packT [(.list .str)]) n [0, 11] [.own 0 .str x1, .d .str x2, .d I64 x3, .d I64 x4, .d (.list .str) x5, .d I64 x6, .d I64 x7]
theorem F_spec_l5Sorted_eq (n : Nat) (a0 : (List (List Int))) : F_spec_l5Sorted n a0 =
    L_spec_l5Sorted_0_3 n [] a0 (a0.length : Int) 0 := by kernel_rfl
theorem L_spec_l5Sorted_0_3_eq (n : Nat) (x1 : (List (List Int))) (x2 : (List (List Int))) (x3 : Int) (x4 : Int) : L_spec_l5Sorted_0_3 (n + 1) x1 x2 x3 x4 =
    bif decide (x4 < x3) then
      bif inB x4 x2.length then
        L_spec_l5Sorted_0_6 n x1 (rd x2 x4 (Ty.dflt .str)) (x1.length : Int) x2 x3 x4
      else none
    else
      some x1 := by kernel_rfl
theorem L_spec_l5Sorted_0_6_eq (n : Nat) (x1 : (List (List Int))) (x2 : (List Int)) (x3 : Int) (x4 : (List (List Int))) (x5 : Int) (x6 : Int) : L_spec_l5Sorted_0_6 (n + 1) x1 x2 x3 x4 x5 x6 =
    bif decide ((0 : Int) < x3) then
      bif inB (IntKind.wrap .i64 (x3 - 1)) x1.length then
        bif inB (IntKind.wrap .i64 (x3 - 1)) x1.length then
          Option.bind (P_spec_l1CmpText (rd x1 (IntKind.wrap .i64 (x3 - 1)) (Ty.dflt .str)) x2) fun (y1 : Int) =>
          bif decide ((0 : Int) < y1) then
            L_spec_l5Sorted_0_6 n x1 x2 (IntKind.wrap .i64 (x3 - 1)) x4 x5 x6
          else
            L_spec_l5Sorted_1_8 n x1 x2 x3 x4 x5 x6
        else none
      else none
    else
      L_spec_l5Sorted_1_8 n x1 x2 x3 x4 x5 x6 := by kernel_rfl
theorem L_spec_l5Sorted_1_8_eq (n : Nat) (x1 : (List (List Int))) (x2 : (List Int)) (x3 : Int) (x4 : (List (List Int))) (x5 : Int) (x6 : Int) : L_spec_l5Sorted_1_8 (n + 1) x1 x2 x3 x4 x5 x6 =
    bif decide ((0 : Int) < x3) then
      bif inB (IntKind.wrap .i64 (x3 - 1)) x1.length then
        bif inB (IntKind.wrap .i64 (x3 - 1)) x1.length then
          bif decide (rd x1 (IntKind.wrap .i64 (x3 - 1)) (Ty.dflt .str) = x2) then
            L_spec_l5Sorted_0_3 n x1 x4 x5 (IntKind.wrap .i64 (x6 + 1))
          else
            bif decide (((x1.length : Int) + (([x2] : List (List Int)).length : Int)) * 16 ≤ room) && decide ((x1.length : Int) + (([x2] : List (List Int)).length : Int) ≤ room) then
              L_spec_l5Sorted_0_11 n (x1 ++ ([x2] : List (List Int))) x2 x3 (IntKind.wrap .i64 (((x1 ++ ([x2] : List (List Int))).length : Int) - 1)) x4 x5 x6
            else none
        else none
      else none
    else
      bif decide (((x1.length : Int) + (([x2] : List (List Int)).length : Int)) * 16 ≤ room) && decide ((x1.length : Int) + (([x2] : List (List Int)).length : Int) ≤ room) then
        L_spec_l5Sorted_0_11 n (x1 ++ ([x2] : List (List Int))) x2 x3 (IntKind.wrap .i64 (((x1 ++ ([x2] : List (List Int))).length : Int) - 1)) x4 x5 x6
      else none := by kernel_rfl
theorem L_spec_l5Sorted_0_11_eq (n : Nat) (x1 : (List (List Int))) (x2 : (List Int)) (x3 : Int) (x4 : Int) (x5 : (List (List Int))) (x6 : Int) (x7 : Int) : L_spec_l5Sorted_0_11 (n + 1) x1 x2 x3 x4 x5 x6 x7 =
    bif decide (x3 < x4) then
      bif inB (IntKind.wrap .i64 (x4 - 1)) x1.length then
        bif inB (IntKind.wrap .i64 (x4 - 1)) x1.length then
          bif inB x4 x1.length then
            bif inB x4 x1.length && true && true && true && true then
              L_spec_l5Sorted_0_11 n (x1.set (Int.toNat x4) (rd x1 (IntKind.wrap .i64 (x4 - 1)) (Ty.dflt .str))) x2 x3 (IntKind.wrap .i64 (x4 - 1)) x5 x6 x7
            else none
          else none
        else none
      else none
    else
      bif inB x3 x1.length then
        bif inB x3 x1.length && true && true && true && true then
          L_spec_l5Sorted_0_3 n (x1.set (Int.toNat x3) x2) x5 x6 (IntKind.wrap .i64 (x7 + 1))
        else none
      else none := by kernel_rfl
theorem S_spec_l5Sorted_0_11 {K0 : (List (List Int)) → Option (List (List Int))} {x2 : (List Int)} {x3 : Int} {x5 : (List (List Int))} {x6 : Int} {x7 : Int} (hK0 : ∀ (z1 : (List (List Int))) (r : (List (List Int))), K0 z1 = some r → Ev (fun n => L_spec_l5Sorted_0_3 n z1 x5 x6 (IntKind.wrap .i64 (x7 + 1))) r) : ∀ (m : Nat) (x1 : (List (List Int))) (x4 : Int) (r : (List (List Int))), P_spec_l5Sorted_0_11 K0 x2 x3 m x1 x4 = some r → Ev (fun n => L_spec_l5Sorted_0_11 n x1 x2 x3 x4 x5 x6 x7) r := by
  intro m
  induction m with
  | zero => intro x1 x4 r h; rw [P_spec_l5Sorted_0_11] at h; exact Ev.ofNone h
  | succ m ih2 =>
    intro x1 x4 r h
    rw [P_spec_l5Sorted_0_11] at h
    refine Ev.step ?_ (fun n => L_spec_l5Sorted_0_11_eq n x1 x2 x3 x4 x5 x6 x7)
    exact (Ev.ofBif h (fun h => (Ev.ofBif h (fun h => (Ev.ofBif h (fun h => (Ev.ofBif h (fun h => (Ev.ofBif h (fun h => (ih2 _ _ _ h)) (fun h => (Ev.ofNone h)))) (fun h => (Ev.ofNone h)))) (fun h => (Ev.ofNone h)))) (fun h => (Ev.ofNone h)))) (fun h => (Ev.ofBif h (fun h => (Ev.ofBif h (fun h => (hK0 _ _ h)) (fun h => (Ev.ofNone h)))) (fun h => (Ev.ofNone h)))))
theorem S_spec_l5Sorted_1_8 {K0 : (List (List Int)) → Option (List (List Int))} {m : Nat} {x1 : (List (List Int))} {x2 : (List Int)} {x3 : Int} {x4 : (List (List Int))} {x5 : Int} {x6 : Int} (hK0 : ∀ (z1 : (List (List Int))) (r : (List (List Int))), K0 z1 = some r → Ev (fun n => L_spec_l5Sorted_0_3 n z1 x4 x5 (IntKind.wrap .i64 (x6 + 1))) r) {r : (List (List Int))} (h : P_spec_l5Sorted_1_8 K0 m x1 x2 x3 = some r) : Ev (fun n => L_spec_l5Sorted_1_8 n x1 x2 x3 x4 x5 x6) r := by
  rw [P_spec_l5Sorted_1_8] at h
  refine Ev.step ?_ (fun n => L_spec_l5Sorted_1_8_eq n x1 x2 x3 x4 x5 x6)
  exact (Ev.ofBif h (fun h => (Ev.ofBif h (fun h => (Ev.ofBif h (fun h => (Ev.ofBif h (fun h => (hK0 _ _ h)) (fun h => (Ev.ofBif h (fun h => (S_spec_l5Sorted_0_11 hK0 _ _ _ _ h)) (fun h => (Ev.ofNone h)))))) (fun h => (Ev.ofNone h)))) (fun h => (Ev.ofNone h)))) (fun h => (Ev.ofBif h (fun h => (S_spec_l5Sorted_0_11 hK0 _ _ _ _ h)) (fun h => (Ev.ofNone h)))))
theorem S_spec_l5Sorted_0_6 {K0 : (List (List Int)) → Option (List (List Int))} {x1 : (List (List Int))} {x2 : (List Int)} {x4 : (List (List Int))} {x5 : Int} {x6 : Int} (hK0 : ∀ (z1 : (List (List Int))) (r : (List (List Int))), K0 z1 = some r → Ev (fun n => L_spec_l5Sorted_0_3 n z1 x4 x5 (IntKind.wrap .i64 (x6 + 1))) r) : ∀ (m : Nat) (x3 : Int) (r : (List (List Int))), P_spec_l5Sorted_0_6 K0 x1 x2 m x3 = some r → Ev (fun n => L_spec_l5Sorted_0_6 n x1 x2 x3 x4 x5 x6) r := by
  intro m
  induction m with
  | zero => intro x3 r h; rw [P_spec_l5Sorted_0_6] at h; exact Ev.ofNone h
  | succ m ih2 =>
    intro x3 r h
    rw [P_spec_l5Sorted_0_6] at h
    refine Ev.step ?_ (fun n => L_spec_l5Sorted_0_6_eq n x1 x2 x3 x4 x5 x6)
    exact (Ev.ofBif h (fun h => (Ev.ofBif h (fun h => (Ev.ofBif h (fun h => (Ev.ofBind h fun y1 h => (Ev.ofBif h (fun h => (ih2 _ _ h)) (fun h => (S_spec_l5Sorted_1_8 hK0 h))))) (fun h => (Ev.ofNone h)))) (fun h => (Ev.ofNone h)))) (fun h => (S_spec_l5Sorted_1_8 hK0 h)))
theorem S_spec_l5Sorted_0_3 {m : Nat} {x2 : (List (List Int))} (hl : x2.length ≤ maxLen) : ∀ (rest : List (List Int)) (k : Nat) (x1 : (List (List Int))) (r : (List (List Int))), rest = x2.drop k → P_spec_l5Sorted_0_3 m rest x1 = some r → Ev (fun n => L_spec_l5Sorted_0_3 n x1 x2 (x2.length : Int) (k : Int)) r := by
  intro rest
  induction rest with
  | nil =>
    intro k x1 r hr h
    have hk := drop_nil hr
    rw [P_spec_l5Sorted_0_3] at h
    refine Ev.step ?_ (fun n => L_spec_l5Sorted_0_3_eq n x1 x2 (x2.length : Int) (k : Int))
    rw [show decide ((k : Int) < (x2.length : Int)) = false from decide_eq_false (by omega)]
    exact Ev.neg rfl (Ev.ofSome h)
  | cons e rest ih =>
    intro k x1 r hr h
    obtain ⟨hk, hx, hr2⟩ := drop_cons (d := (Ty.dflt .str)) hr
    have hw := wrap_succ hl hk
    have ih2 : ∀ (z1 : (List (List Int))) (r : (List (List Int))), P_spec_l5Sorted_0_3 m rest z1 = some r → Ev (fun n => L_spec_l5Sorted_0_3 n z1 x2 (x2.length : Int) (IntKind.wrap .i64 ((k : Int) + 1))) r := by
      intro z1 r h; rw [hw]; exact ih (k + 1) z1 r hr2 h
    rw [P_spec_l5Sorted_0_3] at h
    refine Ev.step ?_ (fun n => L_spec_l5Sorted_0_3_eq n x1 x2 (x2.length : Int) (k : Int))
    rw [show decide ((k : Int) < (x2.length : Int)) = true from decide_eq_true (by omega), inB_nat2 hk, hx]
    exact Ev.pos rfl (Ev.pos rfl (S_spec_l5Sorted_0_6 ih2 _ _ _ h))
theorem S_spec_l5Sorted {m : Nat} (a0 : (List (List Int))) {r : (List (List Int))} (h : P_spec_l5Sorted m a0 = some r) : Ev (fun n => F_spec_l5Sorted n a0) r := by
  rw [P_spec_l5Sorted] at h
  refine Ev.of_eq ?_ (fun n => F_spec_l5Sorted_eq n a0)
  exact (Ev.ofLen h fun hl h => S_spec_l5Sorted_0_3 hl _ (0 : Nat) _ _ rfl h)
theorem hcs_spec_l5Sorted : ∀ x ∈ cs_spec_l5Sorted, CtrOk Try.prog x := (conOf_cons ok_spec_l1CmpText conOf_nil)
theorem ok_spec_l5Sorted : CtrOk Try.prog (c_spec_l5Sorted) := by
  refine ctr_of_run (c := c_spec_l5Sorted) (by kernel_rfl) (by kernel_rfl : Try.prog.funcs[119]? = some Try.f119) (code := Try.f119.body.getD .skip) (by kernel_rfl) (by kernel_rfl) (by kernel_rfl) (A := A_spec_l5Sorted) (I := In_spec_l5Sorted) (hcs_spec_l5Sorted) ?_
  rintro ⟨a0, u⟩ y hy
  exact let ⟨_, h⟩ := (evOpt_get hy).get; (S_spec_l5Sorted a0 h).get

/-! ## spec.l15Under (70) -/
noncomputable def P_spec_l15Under_0_8 (K0 : (List (List Int)) → Int → Option (List (List Int))) (x2 : Int) : List (List Int) → (List (List Int)) → Option (List (List Int))
  | [], x1 =>
      K0 x1 (IntKind.wrap .i64 (x2 + 1))
  | e :: rest, x1 =>
      Option.bind (P_spec_l3Has x1 (e)) fun (y2 : Bool) =>
      bif !(y2) then
        bif decide (((x1.length : Int) + (([e] : List (List Int)).length : Int)) * 16 ≤ room) && decide ((x1.length : Int) + (([e] : List (List Int)).length : Int) ≤ room) then
          P_spec_l15Under_0_8 K0 x2 rest (x1 ++ ([e] : List (List Int)))
        else none
      else
        P_spec_l15Under_0_8 K0 x2 rest x1
noncomputable def P_spec_l15Under_0_4 (x3 : DRoleSet) : Nat → (List (List Int)) → Int → Option (List (List Int))
  | 0, _, _ => none
  | m + 1, x1, x2 =>
      bif decide (x2 < (x1.length : Int)) then
        bif inB x2 x1.length then
          Option.bind (P_spec_l15Role x3 (rd x1 x2 (Ty.dflt .str))) fun (y1 : (DRole × Bool)) =>
          lenOk y1.1.2.1 (P_spec_l15Under_0_8 (fun s0 s1 => P_spec_l15Under_0_4 x3 m s0 s1) x2 y1.1.2.1 x1)
        else none
      else
        Option.bind (E_spec_l5Sorted x1) fun (y3 : (List (List Int))) =>
        some y3
noncomputable def P_spec_l15Under (m : Nat) (a0 : DRoleSet) (a1 : (List (List Int))) : Option (List (List Int)) :=
  bif decide ((a1.length : Int) * 16 ≤ room) && decide ((a1.length : Int) ≤ room) then
    P_spec_l15Under_0_4 a0 m a1 0
  else none
noncomputable def E_spec_l15Under (a0 : DRoleSet) (a1 : (List (List Int))) : Option (List (List Int)) := evOpt fun m => P_spec_l15Under m a0 a1
noncomputable def c_spec_l15Under : Ctr := ⟨70, [TyRoleSet, (.list .str)], [(.list .str)], fun x => E_spec_l15Under x.1 x.2.1⟩
def A_spec_l15Under : List (List Nat × Ann) := [([0, 4], [.keep 0 2, .own 0 5 .str, .keep 0 6, .boxd 0 2 TyRoleSet]), ([0, 8], [.keep 0 2, .own 0 5 .str, .keep 0 6, .keep 0 30, .keep 0 31, .keep 0 32, .boxd 0 2 TyRoleSet])]
def In_spec_l15Under : List (List Nat × Nat) := []
noncomputable def cs_spec_l15Under : List Ctr := [c_spec_l15Role, c_spec_l3Has, c_spec_l5Sorted]
noncomputable def F_spec_l15Under (n : Nat) (a0 : DRoleSet) (a1 : (List (List Int))) : Option (List (List Int)) := run Try.prog A_spec_l15Under In_spec_l15Under (conOf cs_spec_l15Under) Try.f70 (Try.f70.body.getD .skip) (packT [(.list .str)]) n (argsV [TyRoleSet, (.list .str)] (a0, a1, ()))
noncomputable abbrev L_spec_l15Under_0_4 (n : Nat) (x1 : (List (List Int))) (x2 : Int) (x3 : DRoleSet) : Option (List (List Int)) := lam Try.prog A_spec_l15Under In_spec_l15Under (conOf cs_spec_l15Under) Try.f70 (Try.f70.body.getD .skip) (packT [(.list .str)]) n [0, 4] [.ptr 0 2 0, .own 0 .str x1, .d I64 x2, .agg (explode TyRoleSet x3)]
noncomputable abbrev L_spec_l15Under_0_8 (n : Nat) (x1 : (List (List Int))) (x2 : Int) (x3 : (List (List Int))) (x4 : Int) (x5 : Int) (x6 : DRoleSet) : Option (List (List Int)) := lam Try.prog A_spec_l15Under In_spec_l15Under (conOf cs_spec_l15Under) Try.f70 (Try.f70.body.getD .skip) (packT [(.list .str)]) n [0, 8] [.ptr 0 2 0, .own 0 .str x1, .d I64 x2, .d (.list .str) x3, .d I64 x4, .d I64 x5, .agg (explode TyRoleSet x6)]
theorem F_spec_l15Under_eq (n : Nat) (a0 : DRoleSet) (a1 : (List (List Int))) : F_spec_l15Under n a0 a1 =
    bif decide ((a1.length : Int) * 16 ≤ room) && decide ((a1.length : Int) ≤ room) then
      L_spec_l15Under_0_4 n a1 0 a0
    else none := by kernel_rfl
theorem L_spec_l15Under_0_4_eq (n : Nat) (x1 : (List (List Int))) (x2 : Int) (x3 : DRoleSet) : L_spec_l15Under_0_4 (n + 1) x1 x2 x3 =
    bif decide (x2 < (x1.length : Int)) then
      bif inB x2 x1.length then
        Option.bind (P_spec_l15Role x3 (rd x1 x2 (Ty.dflt .str))) fun (y1 : (DRole × Bool)) =>
        L_spec_l15Under_0_8 n x1 x2 y1.1.2.1 (y1.1.2.1.length : Int) 0 x3
      else none
    else
      Option.bind (E_spec_l5Sorted x1) fun (y3 : (List (List Int))) =>
      some y3 := by kernel_rfl
theorem L_spec_l15Under_0_8_eq (n : Nat) (x1 : (List (List Int))) (x2 : Int) (x3 : (List (List Int))) (x4 : Int) (x5 : Int) (x6 : DRoleSet) : L_spec_l15Under_0_8 (n + 1) x1 x2 x3 x4 x5 x6 =
    bif decide (x5 < x4) then
      bif inB x5 x3.length then
        Option.bind (P_spec_l3Has x1 (rd x3 x5 (Ty.dflt .str))) fun (y2 : Bool) =>
        bif !(y2) then
          bif decide (((x1.length : Int) + (([rd x3 x5 (Ty.dflt .str)] : List (List Int)).length : Int)) * 16 ≤ room) && decide ((x1.length : Int) + (([rd x3 x5 (Ty.dflt .str)] : List (List Int)).length : Int) ≤ room) then
            L_spec_l15Under_0_8 n (x1 ++ ([rd x3 x5 (Ty.dflt .str)] : List (List Int))) x2 x3 x4 (IntKind.wrap .i64 (x5 + 1)) x6
          else none
        else
          L_spec_l15Under_0_8 n x1 x2 x3 x4 (IntKind.wrap .i64 (x5 + 1)) x6
      else none
    else
      L_spec_l15Under_0_4 n x1 (IntKind.wrap .i64 (x2 + 1)) x6 := by kernel_rfl
theorem S_spec_l15Under_0_8 {K0 : (List (List Int)) → Int → Option (List (List Int))} {x2 : Int} {x3 : (List (List Int))} {x6 : DRoleSet} (hl : x3.length ≤ maxLen) (hK0 : ∀ (z1 : (List (List Int))) (z2 : Int) (r : (List (List Int))), K0 z1 z2 = some r → Ev (fun n => L_spec_l15Under_0_4 n z1 z2 x6) r) : ∀ (rest : List (List Int)) (k : Nat) (x1 : (List (List Int))) (r : (List (List Int))), rest = x3.drop k → P_spec_l15Under_0_8 K0 x2 rest x1 = some r → Ev (fun n => L_spec_l15Under_0_8 n x1 x2 x3 (x3.length : Int) (k : Int) x6) r := by
  intro rest
  induction rest with
  | nil =>
    intro k x1 r hr h
    have hk := drop_nil hr
    rw [P_spec_l15Under_0_8] at h
    refine Ev.step ?_ (fun n => L_spec_l15Under_0_8_eq n x1 x2 x3 (x3.length : Int) (k : Int) x6)
    rw [show decide ((k : Int) < (x3.length : Int)) = false from decide_eq_false (by omega)]
    exact Ev.neg rfl (hK0 _ _ _ h)
  | cons e rest ih =>
    intro k x1 r hr h
    obtain ⟨hk, hx, hr2⟩ := drop_cons (d := (Ty.dflt .str)) hr
    have hw := wrap_succ hl hk
    have ih2 : ∀ (z1 : (List (List Int))) (r : (List (List Int))), P_spec_l15Under_0_8 K0 x2 rest z1 = some r → Ev (fun n => L_spec_l15Under_0_8 n z1 x2 x3 (x3.length : Int) (IntKind.wrap .i64 ((k : Int) + 1)) x6) r := by
      intro z1 r h; rw [hw]; exact ih (k + 1) z1 r hr2 h
    rw [P_spec_l15Under_0_8] at h
    refine Ev.step ?_ (fun n => L_spec_l15Under_0_8_eq n x1 x2 x3 (x3.length : Int) (k : Int) x6)
    rw [show decide ((k : Int) < (x3.length : Int)) = true from decide_eq_true (by omega), inB_nat2 hk, hx]
    exact Ev.pos rfl (Ev.pos rfl (Ev.ofBind h fun y2 h => (Ev.ofBif h (fun h => (Ev.ofBif h (fun h => (ih2 _ _ h)) (fun h => (Ev.ofNone h)))) (fun h => (ih2 _ _ h)))))
theorem S_spec_l15Under_0_4 {x3 : DRoleSet} : ∀ (m : Nat) (x1 : (List (List Int))) (x2 : Int) (r : (List (List Int))), P_spec_l15Under_0_4 x3 m x1 x2 = some r → Ev (fun n => L_spec_l15Under_0_4 n x1 x2 x3) r := by
  intro m
  induction m with
  | zero => intro x1 x2 r h; rw [P_spec_l15Under_0_4] at h; exact Ev.ofNone h
  | succ m ih2 =>
    intro x1 x2 r h
    rw [P_spec_l15Under_0_4] at h
    refine Ev.step ?_ (fun n => L_spec_l15Under_0_4_eq n x1 x2 x3)
    exact (Ev.ofBif h (fun h => (Ev.ofBif h (fun h => (Ev.ofBind h fun y1 h => (Ev.ofLen h fun hl h => S_spec_l15Under_0_8 hl ih2 _ (0 : Nat) _ _ rfl h))) (fun h => (Ev.ofNone h)))) (fun h => (Ev.ofBind h fun y3 h => (Ev.ofSome h))))
theorem S_spec_l15Under {m : Nat} (a0 : DRoleSet) (a1 : (List (List Int))) {r : (List (List Int))} (h : P_spec_l15Under m a0 a1 = some r) : Ev (fun n => F_spec_l15Under n a0 a1) r := by
  rw [P_spec_l15Under] at h
  refine Ev.of_eq ?_ (fun n => F_spec_l15Under_eq n a0 a1)
  exact (Ev.ofBif h (fun h => (S_spec_l15Under_0_4 _ _ _ _ h)) (fun h => (Ev.ofNone h)))
theorem hcs_spec_l15Under : ∀ x ∈ cs_spec_l15Under, CtrOk Try.prog x := (conOf_cons ok_spec_l15Role (conOf_cons ok_spec_l3Has (conOf_cons ok_spec_l5Sorted conOf_nil)))
theorem ok_spec_l15Under : CtrOk Try.prog (c_spec_l15Under) := by
  refine ctr_of_run (c := c_spec_l15Under) (by kernel_rfl) (by kernel_rfl : Try.prog.funcs[70]? = some Try.f70) (code := Try.f70.body.getD .skip) (by kernel_rfl) (by kernel_rfl) (by kernel_rfl) (A := A_spec_l15Under) (I := In_spec_l15Under) (hcs_spec_l15Under) ?_
  rintro ⟨a0, a1, u⟩ y hy
  exact let ⟨_, h⟩ := (evOpt_get hy).get; (S_spec_l15Under a0 a1 h).get

/-! ## spec.GoodRoleSet (46) -/
noncomputable def P_spec_GoodRoleSet_0_9 (K0 : Option Bool) : List (List Int) → Option Bool
  | [] =>
      K0
  | e :: rest =>
      Option.bind (P_spec_GoodName (e)) fun (y6 : Bool) =>
      bif !(y6) then
        some false
      else
        P_spec_GoodRoleSet_0_9 K0 rest
noncomputable def P_spec_GoodRoleSet_0_22 (x4 : DRoleSet) : List DApart → Option Bool
  | [] =>
      some true
  | e :: rest =>
      bif decide ((((e).1).length : Int) < 2) then
        some false
      else
        Option.bind (P_spec_l15All x4 ((e).1)) fun (y11 : Bool) =>
        bif !(y11) then
          some false
        else
          bif decide (((e).2).1 < 1) then
            some false
          else
            bif decide ((((e).1).length : Int) ≤ ((e).2).1) then
              some false
            else
              P_spec_GoodRoleSet_0_22 x4 rest
noncomputable def P_spec_GoodRoleSet_0_16 (x4 : DRoleSet) : List DRole → Option Bool
  | [] =>
      lenOk x4.2.1 (P_spec_GoodRoleSet_0_22 x4 x4.2.1)
  | e :: rest =>
      Option.bind (E_spec_l15Under x4 (((e).2).1)) fun (y9 : (List (List Int))) =>
      Option.bind (P_spec_l3Has y9 ((e).1)) fun (y10 : Bool) =>
      bif y10 then
        some false
      else
        P_spec_GoodRoleSet_0_16 x4 rest
noncomputable def P_spec_GoodRoleSet_0_4 (x4 : DRoleSet) : List DRole → Nat → Option Bool
  | [], k =>
      lenOk x4.1 (P_spec_GoodRoleSet_0_16 x4 x4.1)
  | e :: rest, k =>
      Option.bind (P_spec_GoodName ((e).1)) fun (y2 : Bool) =>
      bif !(y2) then
        some false
      else
        bif decide ((0 : Int) < (k : Int)) then
          bif inB (IntKind.wrap .i64 ((k : Int) - 1)) x4.1.length then
            Option.bind (P_spec_l1CmpText ((rd x4.1 (IntKind.wrap .i64 ((k : Int) - 1)) (Ty.dflt TyRole)).1) ((e).1)) fun (y3 : Int) =>
            bif decide ((0 : Int) ≤ y3) then
              some false
            else
              Option.bind (P_spec_l15All x4 (((e).2).1)) fun (y4 : Bool) =>
              bif !(y4) then
                some false
              else
                bif decide ((20 : Int) < ((((e).2).2).length : Int)) then
                  some false
                else
                  Option.bind (P_spec_l3Rising (((e).2).2)) fun (y5 : Bool) =>
                  bif !(y5) then
                    some false
                  else
                    lenOk (((e).2).2) (P_spec_GoodRoleSet_0_9 (P_spec_GoodRoleSet_0_4 x4 rest (k + 1)) (((e).2).2))
          else none
        else
          Option.bind (P_spec_l15All x4 (((e).2).1)) fun (y7 : Bool) =>
          bif !(y7) then
            some false
          else
            bif decide ((20 : Int) < ((((e).2).2).length : Int)) then
              some false
            else
              Option.bind (P_spec_l3Rising (((e).2).2)) fun (y8 : Bool) =>
              bif !(y8) then
                some false
              else
                lenOk (((e).2).2) (P_spec_GoodRoleSet_0_9 (P_spec_GoodRoleSet_0_4 x4 rest (k + 1)) (((e).2).2))
noncomputable def P_spec_GoodRoleSet (a0 : DRoleSet) : Option Bool :=
  bif decide ((30 : Int) < (a0.1.length : Int)) then
    some false
  else
    bif decide ((10 : Int) < (a0.2.1.length : Int)) then
      some false
    else
      Option.bind (P_spec_l15All a0 a0.2.2) fun (y1 : Bool) =>
      bif !(y1) then
        some false
      else
        lenOk a0.1 (P_spec_GoodRoleSet_0_4 a0 a0.1 0)
noncomputable def c_spec_GoodRoleSet : Ctr := ⟨46, [TyRoleSet], [.bool], fun x => P_spec_GoodRoleSet x.1⟩
def A_spec_GoodRoleSet : List (List Nat × Ann) := [([0, 4], [.keep 0 1, .keep 0 29, .keep 0 30, .keep 0 31, .boxd 0 1 TyRoleSet]), ([0, 9], [.keep 0 1, .keep 0 29, .keep 0 30, .keep 0 31, .keep 0 77, .keep 0 78, .keep 0 79, .boxd 0 1 TyRoleSet]), ([0, 16], [.keep 0 1, .keep 0 89, .keep 0 90, .keep 0 91, .boxd 0 1 TyRoleSet]), ([0, 22], [.keep 0 1, .keep 0 104, .keep 0 105, .keep 0 106, .boxd 0 1 TyRoleSet])]
def In_spec_GoodRoleSet : List (List Nat × Nat) := []
noncomputable def cs_spec_GoodRoleSet : List Ctr := [c_spec_l15All, c_spec_GoodName, c_spec_l1CmpText, c_spec_l3Rising, c_spec_l15Under, c_spec_l3Has]
noncomputable def F_spec_GoodRoleSet (n : Nat) (a0 : DRoleSet) : Option Bool := run Try.prog A_spec_GoodRoleSet In_spec_GoodRoleSet (conOf cs_spec_GoodRoleSet) Try.f46 (Try.f46.body.getD .skip) (packT [.bool]) n (argsV [TyRoleSet] (a0, ()))
noncomputable abbrev L_spec_GoodRoleSet_0_4 (n : Nat) (x1 : (List DRole)) (x2 : Int) (x3 : Int) (x4 : DRoleSet) : Option Bool := lam Try.prog A_spec_GoodRoleSet In_spec_GoodRoleSet (conOf cs_spec_GoodRoleSet) Try.f46 (Try.f46.body.getD .skip) (packT [.bool]) n [0, 4] [.ptr 0 1 0, .d (.list TyRole) x1, .d I64 x2, .d I64 x3, .agg (explode TyRoleSet x4)]
noncomputable abbrev L_spec_GoodRoleSet_0_9 (n : Nat) (x1 : (List DRole)) (x2 : Int) (x3 : Int) (x4 : (List (List Int))) (x5 : Int) (x6 : Int) (x7 : DRoleSet) : Option Bool := lam Try.prog A_spec_GoodRoleSet In_spec_GoodRoleSet (conOf cs_spec_GoodRoleSet) Try.f46 (Try.f46.body.getD .skip) (packT [.bool]) n [0, 9] [.ptr 0 1 0, .d (.list TyRole) x1, .d I64 x2, .d I64 x3, .d (.list .str) x4, .d I64 x5, .d I64 x6, .agg (explode TyRoleSet x7)]
noncomputable abbrev L_spec_GoodRoleSet_0_16 (n : Nat) (x1 : (List DRole)) (x2 : Int) (x3 : Int) (x4 : DRoleSet) : Option Bool := lam Try.prog A_spec_GoodRoleSet In_spec_GoodRoleSet (conOf cs_spec_GoodRoleSet) Try.f46 (Try.f46.body.getD .skip) (packT [.bool]) n [0, 16] [.ptr 0 1 0, .d (.list TyRole) x1, .d I64 x2, .d I64 x3, .agg (explode TyRoleSet x4)]
noncomputable abbrev L_spec_GoodRoleSet_0_22 (n : Nat) (x1 : (List DApart)) (x2 : Int) (x3 : Int) (x4 : DRoleSet) : Option Bool := lam Try.prog A_spec_GoodRoleSet In_spec_GoodRoleSet (conOf cs_spec_GoodRoleSet) Try.f46 (Try.f46.body.getD .skip) (packT [.bool]) n [0, 22] [.ptr 0 1 0, .d (.list TyApart) x1, .d I64 x2, .d I64 x3, .agg (explode TyRoleSet x4)]
theorem F_spec_GoodRoleSet_eq (n : Nat) (a0 : DRoleSet) : F_spec_GoodRoleSet n a0 =
    bif decide ((30 : Int) < (a0.1.length : Int)) then
      some false
    else
      bif decide ((10 : Int) < (a0.2.1.length : Int)) then
        some false
      else
        Option.bind (P_spec_l15All a0 a0.2.2) fun (y1 : Bool) =>
        bif !(y1) then
          some false
        else
          L_spec_GoodRoleSet_0_4 n a0.1 (a0.1.length : Int) 0 a0 := by kernel_rfl
theorem L_spec_GoodRoleSet_0_4_eq (n : Nat) (x1 : (List DRole)) (x2 : Int) (x3 : Int) (x4 : DRoleSet) : L_spec_GoodRoleSet_0_4 (n + 1) x1 x2 x3 x4 =
    bif decide (x3 < x2) then
      bif inB x3 x1.length then
        Option.bind (P_spec_GoodName ((rd x1 x3 (Ty.dflt TyRole)).1)) fun (y2 : Bool) =>
        bif !(y2) then
          some false
        else
          bif decide ((0 : Int) < x3) then
            bif inB (IntKind.wrap .i64 (x3 - 1)) x4.1.length then
              Option.bind (P_spec_l1CmpText ((rd x4.1 (IntKind.wrap .i64 (x3 - 1)) (Ty.dflt TyRole)).1) ((rd x1 x3 (Ty.dflt TyRole)).1)) fun (y3 : Int) =>
              bif decide ((0 : Int) ≤ y3) then
                some false
              else
                Option.bind (P_spec_l15All x4 (((rd x1 x3 (Ty.dflt TyRole)).2).1)) fun (y4 : Bool) =>
                bif !(y4) then
                  some false
                else
                  bif decide ((20 : Int) < ((((rd x1 x3 (Ty.dflt TyRole)).2).2).length : Int)) then
                    some false
                  else
                    Option.bind (P_spec_l3Rising (((rd x1 x3 (Ty.dflt TyRole)).2).2)) fun (y5 : Bool) =>
                    bif !(y5) then
                      some false
                    else
                      L_spec_GoodRoleSet_0_9 n x1 x2 x3 (((rd x1 x3 (Ty.dflt TyRole)).2).2) ((((rd x1 x3 (Ty.dflt TyRole)).2).2).length : Int) 0 x4
            else none
          else
            Option.bind (P_spec_l15All x4 (((rd x1 x3 (Ty.dflt TyRole)).2).1)) fun (y7 : Bool) =>
            bif !(y7) then
              some false
            else
              bif decide ((20 : Int) < ((((rd x1 x3 (Ty.dflt TyRole)).2).2).length : Int)) then
                some false
              else
                Option.bind (P_spec_l3Rising (((rd x1 x3 (Ty.dflt TyRole)).2).2)) fun (y8 : Bool) =>
                bif !(y8) then
                  some false
                else
                  L_spec_GoodRoleSet_0_9 n x1 x2 x3 (((rd x1 x3 (Ty.dflt TyRole)).2).2) ((((rd x1 x3 (Ty.dflt TyRole)).2).2).length : Int) 0 x4
      else none
    else
      L_spec_GoodRoleSet_0_16 n x4.1 (x4.1.length : Int) 0 x4 := by kernel_rfl
theorem L_spec_GoodRoleSet_0_9_eq (n : Nat) (x1 : (List DRole)) (x2 : Int) (x3 : Int) (x4 : (List (List Int))) (x5 : Int) (x6 : Int) (x7 : DRoleSet) : L_spec_GoodRoleSet_0_9 (n + 1) x1 x2 x3 x4 x5 x6 x7 =
    bif decide (x6 < x5) then
      bif inB x6 x4.length then
        Option.bind (P_spec_GoodName (rd x4 x6 (Ty.dflt .str))) fun (y6 : Bool) =>
        bif !(y6) then
          some false
        else
          L_spec_GoodRoleSet_0_9 n x1 x2 x3 x4 x5 (IntKind.wrap .i64 (x6 + 1)) x7
      else none
    else
      L_spec_GoodRoleSet_0_4 n x1 x2 (IntKind.wrap .i64 (x3 + 1)) x7 := by kernel_rfl
theorem L_spec_GoodRoleSet_0_16_eq (n : Nat) (x1 : (List DRole)) (x2 : Int) (x3 : Int) (x4 : DRoleSet) : L_spec_GoodRoleSet_0_16 (n + 1) x1 x2 x3 x4 =
    bif decide (x3 < x2) then
      bif inB x3 x1.length then
        Option.bind (E_spec_l15Under x4 (((rd x1 x3 (Ty.dflt TyRole)).2).1)) fun (y9 : (List (List Int))) =>
        Option.bind (P_spec_l3Has y9 ((rd x1 x3 (Ty.dflt TyRole)).1)) fun (y10 : Bool) =>
        bif y10 then
          some false
        else
          L_spec_GoodRoleSet_0_16 n x1 x2 (IntKind.wrap .i64 (x3 + 1)) x4
      else none
    else
      L_spec_GoodRoleSet_0_22 n x4.2.1 (x4.2.1.length : Int) 0 x4 := by kernel_rfl
theorem L_spec_GoodRoleSet_0_22_eq (n : Nat) (x1 : (List DApart)) (x2 : Int) (x3 : Int) (x4 : DRoleSet) : L_spec_GoodRoleSet_0_22 (n + 1) x1 x2 x3 x4 =
    bif decide (x3 < x2) then
      bif inB x3 x1.length then
        bif decide ((((rd x1 x3 (Ty.dflt TyApart)).1).length : Int) < 2) then
          some false
        else
          Option.bind (P_spec_l15All x4 ((rd x1 x3 (Ty.dflt TyApart)).1)) fun (y11 : Bool) =>
          bif !(y11) then
            some false
          else
            bif decide (((rd x1 x3 (Ty.dflt TyApart)).2).1 < 1) then
              some false
            else
              bif decide ((((rd x1 x3 (Ty.dflt TyApart)).1).length : Int) ≤ ((rd x1 x3 (Ty.dflt TyApart)).2).1) then
                some false
              else
                L_spec_GoodRoleSet_0_22 n x1 x2 (IntKind.wrap .i64 (x3 + 1)) x4
      else none
    else
      some true := by kernel_rfl
theorem S_spec_GoodRoleSet_0_9 {K0 : Option Bool} {x1 : (List DRole)} {x2 : Int} {x3 : Int} {x4 : (List (List Int))} {x7 : DRoleSet} (hl : x4.length ≤ maxLen) (hK0 : ∀  (r : Bool), K0 = some r → Ev (fun n => L_spec_GoodRoleSet_0_4 n x1 x2 (IntKind.wrap .i64 (x3 + 1)) x7) r) : ∀ (rest : List (List Int)) (k : Nat) (r : Bool), rest = x4.drop k → P_spec_GoodRoleSet_0_9 K0 rest = some r → Ev (fun n => L_spec_GoodRoleSet_0_9 n x1 x2 x3 x4 (x4.length : Int) (k : Int) x7) r := by
  intro rest
  induction rest with
  | nil =>
    intro k r hr h
    have hk := drop_nil hr
    rw [P_spec_GoodRoleSet_0_9] at h
    refine Ev.step ?_ (fun n => L_spec_GoodRoleSet_0_9_eq n x1 x2 x3 x4 (x4.length : Int) (k : Int) x7)
    rw [show decide ((k : Int) < (x4.length : Int)) = false from decide_eq_false (by omega)]
    exact Ev.neg rfl (hK0  _ h)
  | cons e rest ih =>
    intro k r hr h
    obtain ⟨hk, hx, hr2⟩ := drop_cons (d := (Ty.dflt .str)) hr
    have hw := wrap_succ hl hk
    have ih2 : ∀ (r : Bool), P_spec_GoodRoleSet_0_9 K0 rest = some r → Ev (fun n => L_spec_GoodRoleSet_0_9 n x1 x2 x3 x4 (x4.length : Int) (IntKind.wrap .i64 ((k : Int) + 1)) x7) r := by
      intro r h; rw [hw]; exact ih (k + 1) r hr2 h
    rw [P_spec_GoodRoleSet_0_9] at h
    refine Ev.step ?_ (fun n => L_spec_GoodRoleSet_0_9_eq n x1 x2 x3 x4 (x4.length : Int) (k : Int) x7)
    rw [show decide ((k : Int) < (x4.length : Int)) = true from decide_eq_true (by omega), inB_nat2 hk, hx]
    exact Ev.pos rfl (Ev.pos rfl (Ev.ofBind h fun y6 h => (Ev.ofBif h (fun h => (Ev.ofSome h)) (fun h => (ih2  _ h)))))
theorem S_spec_GoodRoleSet_0_22 {x1 : (List DApart)} {x4 : DRoleSet} (hl : x1.length ≤ maxLen) : ∀ (rest : List DApart) (k : Nat) (r : Bool), rest = x1.drop k → P_spec_GoodRoleSet_0_22 x4 rest = some r → Ev (fun n => L_spec_GoodRoleSet_0_22 n x1 (x1.length : Int) (k : Int) x4) r := by
  intro rest
  induction rest with
  | nil =>
    intro k r hr h
    have hk := drop_nil hr
    rw [P_spec_GoodRoleSet_0_22] at h
    refine Ev.step ?_ (fun n => L_spec_GoodRoleSet_0_22_eq n x1 (x1.length : Int) (k : Int) x4)
    rw [show decide ((k : Int) < (x1.length : Int)) = false from decide_eq_false (by omega)]
    exact Ev.neg rfl (Ev.ofSome h)
  | cons e rest ih =>
    intro k r hr h
    obtain ⟨hk, hx, hr2⟩ := drop_cons (d := (Ty.dflt TyApart)) hr
    have hw := wrap_succ hl hk
    have ih2 : ∀ (r : Bool), P_spec_GoodRoleSet_0_22 x4 rest = some r → Ev (fun n => L_spec_GoodRoleSet_0_22 n x1 (x1.length : Int) (IntKind.wrap .i64 ((k : Int) + 1)) x4) r := by
      intro r h; rw [hw]; exact ih (k + 1) r hr2 h
    rw [P_spec_GoodRoleSet_0_22] at h
    refine Ev.step ?_ (fun n => L_spec_GoodRoleSet_0_22_eq n x1 (x1.length : Int) (k : Int) x4)
    rw [show decide ((k : Int) < (x1.length : Int)) = true from decide_eq_true (by omega), inB_nat2 hk, hx]
    exact Ev.pos rfl (Ev.pos rfl (Ev.ofBif h (fun h => (Ev.ofSome h)) (fun h => (Ev.ofBind h fun y11 h => (Ev.ofBif h (fun h => (Ev.ofSome h)) (fun h => (Ev.ofBif h (fun h => (Ev.ofSome h)) (fun h => (Ev.ofBif h (fun h => (Ev.ofSome h)) (fun h => (ih2  _ h)))))))))))
theorem S_spec_GoodRoleSet_0_16 {x1 : (List DRole)} {x4 : DRoleSet} (hl : x1.length ≤ maxLen) : ∀ (rest : List DRole) (k : Nat) (r : Bool), rest = x1.drop k → P_spec_GoodRoleSet_0_16 x4 rest = some r → Ev (fun n => L_spec_GoodRoleSet_0_16 n x1 (x1.length : Int) (k : Int) x4) r := by
  intro rest
  induction rest with
  | nil =>
    intro k r hr h
    have hk := drop_nil hr
    rw [P_spec_GoodRoleSet_0_16] at h
    refine Ev.step ?_ (fun n => L_spec_GoodRoleSet_0_16_eq n x1 (x1.length : Int) (k : Int) x4)
    rw [show decide ((k : Int) < (x1.length : Int)) = false from decide_eq_false (by omega)]
    exact Ev.neg rfl (Ev.ofLen h fun hl h => S_spec_GoodRoleSet_0_22 hl _ (0 : Nat) _ rfl h)
  | cons e rest ih =>
    intro k r hr h
    obtain ⟨hk, hx, hr2⟩ := drop_cons (d := (Ty.dflt TyRole)) hr
    have hw := wrap_succ hl hk
    have ih2 : ∀ (r : Bool), P_spec_GoodRoleSet_0_16 x4 rest = some r → Ev (fun n => L_spec_GoodRoleSet_0_16 n x1 (x1.length : Int) (IntKind.wrap .i64 ((k : Int) + 1)) x4) r := by
      intro r h; rw [hw]; exact ih (k + 1) r hr2 h
    rw [P_spec_GoodRoleSet_0_16] at h
    refine Ev.step ?_ (fun n => L_spec_GoodRoleSet_0_16_eq n x1 (x1.length : Int) (k : Int) x4)
    rw [show decide ((k : Int) < (x1.length : Int)) = true from decide_eq_true (by omega), inB_nat2 hk, hx]
    exact Ev.pos rfl (Ev.pos rfl (Ev.ofBind h fun y9 h => (Ev.ofBind h fun y10 h => (Ev.ofBif h (fun h => (Ev.ofSome h)) (fun h => (ih2  _ h))))))
theorem S_spec_GoodRoleSet_0_4 {x1 : (List DRole)} {x4 : DRoleSet} (hl : x1.length ≤ maxLen) : ∀ (rest : List DRole) (k : Nat) (r : Bool), rest = x1.drop k → P_spec_GoodRoleSet_0_4 x4 rest k = some r → Ev (fun n => L_spec_GoodRoleSet_0_4 n x1 (x1.length : Int) (k : Int) x4) r := by
  intro rest
  induction rest with
  | nil =>
    intro k r hr h
    have hk := drop_nil hr
    rw [P_spec_GoodRoleSet_0_4] at h
    refine Ev.step ?_ (fun n => L_spec_GoodRoleSet_0_4_eq n x1 (x1.length : Int) (k : Int) x4)
    rw [show decide ((k : Int) < (x1.length : Int)) = false from decide_eq_false (by omega)]
    exact Ev.neg rfl (Ev.ofLen h fun hl h => S_spec_GoodRoleSet_0_16 hl _ (0 : Nat) _ rfl h)
  | cons e rest ih =>
    intro k r hr h
    obtain ⟨hk, hx, hr2⟩ := drop_cons (d := (Ty.dflt TyRole)) hr
    have hw := wrap_succ hl hk
    have ih2 : ∀ (r : Bool), P_spec_GoodRoleSet_0_4 x4 rest (k + 1) = some r → Ev (fun n => L_spec_GoodRoleSet_0_4 n x1 (x1.length : Int) (IntKind.wrap .i64 ((k : Int) + 1)) x4) r := by
      intro r h; rw [hw]; exact ih (k + 1) r hr2 h
    rw [P_spec_GoodRoleSet_0_4] at h
    refine Ev.step ?_ (fun n => L_spec_GoodRoleSet_0_4_eq n x1 (x1.length : Int) (k : Int) x4)
    rw [show decide ((k : Int) < (x1.length : Int)) = true from decide_eq_true (by omega), inB_nat2 hk, hx]
    exact Ev.pos rfl (Ev.pos rfl (Ev.ofBind h fun y2 h => (Ev.ofBif h (fun h => (Ev.ofSome h)) (fun h => (Ev.ofBif h (fun h => (Ev.ofBif h (fun h => (Ev.ofBind h fun y3 h => (Ev.ofBif h (fun h => (Ev.ofSome h)) (fun h => (Ev.ofBind h fun y4 h => (Ev.ofBif h (fun h => (Ev.ofSome h)) (fun h => (Ev.ofBif h (fun h => (Ev.ofSome h)) (fun h => (Ev.ofBind h fun y5 h => (Ev.ofBif h (fun h => (Ev.ofSome h)) (fun h => (Ev.ofLen h fun hl h => S_spec_GoodRoleSet_0_9 hl ih2 _ (0 : Nat) _ rfl h))))))))))))) (fun h => (Ev.ofNone h)))) (fun h => (Ev.ofBind h fun y7 h => (Ev.ofBif h (fun h => (Ev.ofSome h)) (fun h => (Ev.ofBif h (fun h => (Ev.ofSome h)) (fun h => (Ev.ofBind h fun y8 h => (Ev.ofBif h (fun h => (Ev.ofSome h)) (fun h => (Ev.ofLen h fun hl h => S_spec_GoodRoleSet_0_9 hl ih2 _ (0 : Nat) _ rfl h)))))))))))))))
theorem S_spec_GoodRoleSet (a0 : DRoleSet) {r : Bool} (h : P_spec_GoodRoleSet a0 = some r) : Ev (fun n => F_spec_GoodRoleSet n a0) r := by
  rw [P_spec_GoodRoleSet] at h
  refine Ev.of_eq ?_ (fun n => F_spec_GoodRoleSet_eq n a0)
  exact (Ev.ofBif h (fun h => (Ev.ofSome h)) (fun h => (Ev.ofBif h (fun h => (Ev.ofSome h)) (fun h => (Ev.ofBind h fun y1 h => (Ev.ofBif h (fun h => (Ev.ofSome h)) (fun h => (Ev.ofLen h fun hl h => S_spec_GoodRoleSet_0_4 hl _ (0 : Nat) _ rfl h))))))))
theorem hcs_spec_GoodRoleSet : ∀ x ∈ cs_spec_GoodRoleSet, CtrOk Try.prog x := (conOf_cons ok_spec_l15All (conOf_cons ok_spec_GoodName (conOf_cons ok_spec_l1CmpText (conOf_cons ok_spec_l3Rising (conOf_cons ok_spec_l15Under (conOf_cons ok_spec_l3Has conOf_nil))))))
theorem ok_spec_GoodRoleSet : CtrOk Try.prog (c_spec_GoodRoleSet) := by
  refine ctr_of_run (c := c_spec_GoodRoleSet) (by kernel_rfl) (by kernel_rfl : Try.prog.funcs[46]? = some Try.f46) (code := Try.f46.body.getD .skip) (by kernel_rfl) (by kernel_rfl) (by kernel_rfl) (A := A_spec_GoodRoleSet) (I := In_spec_GoodRoleSet) (hcs_spec_GoodRoleSet) ?_
  rintro ⟨a0, u⟩ y hy
  exact (S_spec_GoodRoleSet a0 hy).get

/-! ## spec.JuniorsOf (23) -/
noncomputable def P_spec_JuniorsOf (a0 : DRoleSet) (a1 : (List Int)) : Option (List (List Int)) :=
  Option.bind (P_spec_l15Role a0 a1) fun (y1 : (DRole × Bool)) =>
  bif !(y1.2) then
    some ([])
  else
    Option.bind (P_spec_GoodRoleSet a0) fun (y2 : Bool) =>
    bif !(y2) then
      some ([])
    else
      Option.bind (E_spec_l15Under a0 ([a1] : List (List Int))) fun (y3 : (List (List Int))) =>
      some y3
noncomputable def c_spec_JuniorsOf : Ctr := ⟨23, [TyRoleSet, .str], [(.list .str)], fun x => P_spec_JuniorsOf x.1 x.2.1⟩
def A_spec_JuniorsOf : List (List Nat × Ann) := []
def In_spec_JuniorsOf : List (List Nat × Nat) := []
noncomputable def cs_spec_JuniorsOf : List Ctr := [c_spec_l15Role, c_spec_GoodRoleSet, c_spec_l15Under]
noncomputable def F_spec_JuniorsOf (n : Nat) (a0 : DRoleSet) (a1 : (List Int)) : Option (List (List Int)) := run Try.prog A_spec_JuniorsOf In_spec_JuniorsOf (conOf cs_spec_JuniorsOf) Try.f23 (Try.f23.body.getD .skip) (packT [(.list .str)]) n (argsV [TyRoleSet, .str] (a0, a1, ()))
theorem F_spec_JuniorsOf_eq (n : Nat) (a0 : DRoleSet) (a1 : (List Int)) : F_spec_JuniorsOf n a0 a1 =
    Option.bind (P_spec_l15Role a0 a1) fun (y1 : (DRole × Bool)) =>
    bif !(y1.2) then
      some ([])
    else
      Option.bind (P_spec_GoodRoleSet a0) fun (y2 : Bool) =>
      bif !(y2) then
        some ([])
      else
        Option.bind (E_spec_l15Under a0 ([a1] : List (List Int))) fun (y3 : (List (List Int))) =>
        some y3 := by kernel_rfl
theorem S_spec_JuniorsOf (a0 : DRoleSet) (a1 : (List Int)) {r : (List (List Int))} (h : P_spec_JuniorsOf a0 a1 = some r) : Ev (fun n => F_spec_JuniorsOf n a0 a1) r := by
  rw [P_spec_JuniorsOf] at h
  refine Ev.of_eq ?_ (fun n => F_spec_JuniorsOf_eq n a0 a1)
  exact (Ev.ofBind h fun y1 h => (Ev.ofBif h (fun h => (Ev.ofSome h)) (fun h => (Ev.ofBind h fun y2 h => (Ev.ofBif h (fun h => (Ev.ofSome h)) (fun h => (Ev.ofBind h fun y3 h => (Ev.ofSome h))))))))
theorem hcs_spec_JuniorsOf : ∀ x ∈ cs_spec_JuniorsOf, CtrOk Try.prog x := (conOf_cons ok_spec_l15Role (conOf_cons ok_spec_GoodRoleSet (conOf_cons ok_spec_l15Under conOf_nil)))
theorem ok_spec_JuniorsOf : CtrOk Try.prog (c_spec_JuniorsOf) := by
  refine ctr_of_run (c := c_spec_JuniorsOf) (by kernel_rfl) (by kernel_rfl : Try.prog.funcs[23]? = some Try.f23) (code := Try.f23.body.getD .skip) (by kernel_rfl) (by kernel_rfl) (by kernel_rfl) (A := A_spec_JuniorsOf) (I := In_spec_JuniorsOf) (hcs_spec_JuniorsOf) ?_
  rintro ⟨a0, a1, u⟩ y hy
  exact (S_spec_JuniorsOf a0 a1 hy).get

/-! ## impl.ydigit (149) -/
noncomputable def T_impl_ydigit (a0 : Int) : Bool :=
  bif decide ((48 : Int) ≤ a0) then
    decide (a0 ≤ 57)
  else
    false
noncomputable def c_impl_ydigit : Ctr := ⟨149, [U8], [.bool], fun x => some (T_impl_ydigit x.1)⟩
def A_impl_ydigit : List (List Nat × Ann) := []
def In_impl_ydigit : List (List Nat × Nat) := []
noncomputable def cs_impl_ydigit : List Ctr := []
noncomputable def F_impl_ydigit (n : Nat) (a0 : Int) : Option Bool := run Try.prog A_impl_ydigit In_impl_ydigit (conOf cs_impl_ydigit) Try.f149 (Try.f149.body.getD .skip) (packT [.bool]) n (argsV [U8] (a0, ()))
theorem F_impl_ydigit_eq (n : Nat) (a0 : Int) : F_impl_ydigit n a0 =
    bif decide ((48 : Int) ≤ a0) then
      some (decide (a0 ≤ 57))
    else
      some false := by kernel_rfl
theorem S_impl_ydigit (n : Nat) (a0 : Int) : F_impl_ydigit n a0 = some (T_impl_ydigit a0) := (F_impl_ydigit_eq n a0).trans (cond_some rfl rfl)
theorem hcs_impl_ydigit : ∀ x ∈ cs_impl_ydigit, CtrOk Try.prog x := conOf_nil
theorem ok_impl_ydigit : CtrOk Try.prog (c_impl_ydigit) := by
  refine ctr_of_run (c := c_impl_ydigit) (by kernel_rfl) (by kernel_rfl : Try.prog.funcs[149]? = some Try.f149) (code := Try.f149.body.getD .skip) (by kernel_rfl) (by kernel_rfl) (by kernel_rfl) (A := A_impl_ydigit) (I := In_impl_ydigit) (hcs_impl_ydigit) ?_
  rintro ⟨a0, u⟩ y hy
  exact ⟨0, (S_impl_ydigit 0 a0).trans hy⟩

/-! ## impl.yletter (169) -/
noncomputable def T_impl_yletter (a0 : Int) : Bool :=
  bif decide ((97 : Int) ≤ a0) then
    bif decide (a0 ≤ 122) then
      true
    else
      bif decide ((65 : Int) ≤ a0) then
        decide (a0 ≤ 90)
      else
        false
  else
    bif decide ((65 : Int) ≤ a0) then
      decide (a0 ≤ 90)
    else
      false
noncomputable def c_impl_yletter : Ctr := ⟨169, [U8], [.bool], fun x => some (T_impl_yletter x.1)⟩
def A_impl_yletter : List (List Nat × Ann) := []
def In_impl_yletter : List (List Nat × Nat) := []
noncomputable def cs_impl_yletter : List Ctr := []
noncomputable def F_impl_yletter (n : Nat) (a0 : Int) : Option Bool := run Try.prog A_impl_yletter In_impl_yletter (conOf cs_impl_yletter) Try.f169 (Try.f169.body.getD .skip) (packT [.bool]) n (argsV [U8] (a0, ()))
theorem F_impl_yletter_eq (n : Nat) (a0 : Int) : F_impl_yletter n a0 =
    bif decide ((97 : Int) ≤ a0) then
      bif decide (a0 ≤ 122) then
        some true
      else
        bif decide ((65 : Int) ≤ a0) then
          some (decide (a0 ≤ 90))
        else
          some false
    else
      bif decide ((65 : Int) ≤ a0) then
        some (decide (a0 ≤ 90))
      else
        some false := by kernel_rfl
theorem S_impl_yletter (n : Nat) (a0 : Int) : F_impl_yletter n a0 = some (T_impl_yletter a0) := (F_impl_yletter_eq n a0).trans (cond_some (cond_some rfl (cond_some rfl rfl)) (cond_some rfl rfl))
theorem hcs_impl_yletter : ∀ x ∈ cs_impl_yletter, CtrOk Try.prog x := conOf_nil
theorem ok_impl_yletter : CtrOk Try.prog (c_impl_yletter) := by
  refine ctr_of_run (c := c_impl_yletter) (by kernel_rfl) (by kernel_rfl : Try.prog.funcs[169]? = some Try.f169) (code := Try.f169.body.getD .skip) (by kernel_rfl) (by kernel_rfl) (by kernel_rfl) (A := A_impl_yletter) (I := In_impl_yletter) (hcs_impl_yletter) ?_
  rintro ⟨a0, u⟩ y hy
  exact ⟨0, (S_impl_yletter 0 a0).trans hy⟩

/-! ## impl.ywordByte (150) -/
noncomputable def T_impl_ywordByte (a0 : Int) : Bool :=
  bif T_impl_yletter a0 then
    true
  else
    bif T_impl_ydigit a0 then
      true
    else
      decide (a0 = 95)
noncomputable def c_impl_ywordByte : Ctr := ⟨150, [U8], [.bool], fun x => some (T_impl_ywordByte x.1)⟩
def A_impl_ywordByte : List (List Nat × Ann) := []
def In_impl_ywordByte : List (List Nat × Nat) := []
noncomputable def cs_impl_ywordByte : List Ctr := [c_impl_yletter, c_impl_ydigit]
noncomputable def F_impl_ywordByte (n : Nat) (a0 : Int) : Option Bool := run Try.prog A_impl_ywordByte In_impl_ywordByte (conOf cs_impl_ywordByte) Try.f150 (Try.f150.body.getD .skip) (packT [.bool]) n (argsV [U8] (a0, ()))
theorem F_impl_ywordByte_eq (n : Nat) (a0 : Int) : F_impl_ywordByte n a0 =
    bif T_impl_yletter a0 then
      some true
    else
      bif T_impl_ydigit a0 then
        some true
      else
        some (decide (a0 = 95)) := by kernel_rfl
theorem S_impl_ywordByte (n : Nat) (a0 : Int) : F_impl_ywordByte n a0 = some (T_impl_ywordByte a0) := (F_impl_ywordByte_eq n a0).trans (cond_some rfl (cond_some rfl rfl))
theorem hcs_impl_ywordByte : ∀ x ∈ cs_impl_ywordByte, CtrOk Try.prog x := (conOf_cons ok_impl_yletter (conOf_cons ok_impl_ydigit conOf_nil))
theorem ok_impl_ywordByte : CtrOk Try.prog (c_impl_ywordByte) := by
  refine ctr_of_run (c := c_impl_ywordByte) (by kernel_rfl) (by kernel_rfl : Try.prog.funcs[150]? = some Try.f150) (code := Try.f150.body.getD .skip) (by kernel_rfl) (by kernel_rfl) (by kernel_rfl) (A := A_impl_ywordByte) (I := In_impl_ywordByte) (hcs_impl_ywordByte) ?_
  rintro ⟨a0, u⟩ y hy
  exact ⟨0, (S_impl_ywordByte 0 a0).trans hy⟩

/-! ## impl.GoodName (91) -/
noncomputable def P_impl_GoodName_0_4 : List Int → Option Bool
  | [] =>
      some true
  | e :: rest =>
      bif !(T_impl_ywordByte (e)) then
        some false
      else
        P_impl_GoodName_0_4 rest
noncomputable def P_impl_GoodName (a0 : (List Int)) : Option Bool :=
  bif decide (a0 = ([] : List Int)) then
    some false
  else
    bif decide ((30 : Int) < (a0.length : Int)) then
      some false
    else
      bif inB 0 a0.length then
        bif T_impl_ydigit (rd a0 0 0) then
          some false
        else
          lenOk a0 (P_impl_GoodName_0_4 a0)
      else none
noncomputable def c_impl_GoodName : Ctr := ⟨91, [.str], [.bool], fun x => P_impl_GoodName x.1⟩
def A_impl_GoodName : List (List Nat × Ann) := [([0, 4], [.keep 0 0, .keep 0 17, .keep 0 18])]
def In_impl_GoodName : List (List Nat × Nat) := []
noncomputable def cs_impl_GoodName : List Ctr := [c_impl_ydigit, c_impl_ywordByte]
noncomputable def F_impl_GoodName (n : Nat) (a0 : (List Int)) : Option Bool := run Try.prog A_impl_GoodName In_impl_GoodName (conOf cs_impl_GoodName) Try.f91 (Try.f91.body.getD .skip) (packT [.bool]) n (argsV [.str] (a0, ()))
noncomputable abbrev L_impl_GoodName_0_4 (n : Nat) (x1 : (List Int)) (x2 : Int) (x3 : Int) : Option Bool := lam Try.prog A_impl_GoodName In_impl_GoodName (conOf cs_impl_GoodName) Try.f91 (Try.f91.body.getD .skip) (packT [.bool]) n [0, 4] [.d .str x1, .d I64 x2, .d I64 x3]
theorem F_impl_GoodName_eq (n : Nat) (a0 : (List Int)) : F_impl_GoodName n a0 =
    bif decide (a0 = ([] : List Int)) then
      some false
    else
      bif decide ((30 : Int) < (a0.length : Int)) then
        some false
      else
        bif inB 0 a0.length then
          bif T_impl_ydigit (rd a0 0 0) then
            some false
          else
            L_impl_GoodName_0_4 n a0 (a0.length : Int) 0
        else none := by kernel_rfl
theorem L_impl_GoodName_0_4_eq (n : Nat) (x1 : (List Int)) (x2 : Int) (x3 : Int) : L_impl_GoodName_0_4 (n + 1) x1 x2 x3 =
    bif decide (x3 < x2) then
      bif inB x3 x1.length then
        bif !(T_impl_ywordByte (rd x1 x3 0)) then
          some false
        else
          L_impl_GoodName_0_4 n x1 x2 (IntKind.wrap .i64 (x3 + 1))
      else none
    else
      some true := by kernel_rfl
theorem S_impl_GoodName_0_4 {x1 : (List Int)} (hl : x1.length ≤ maxLen) : ∀ (rest : List Int) (k : Nat) (r : Bool), rest = x1.drop k → P_impl_GoodName_0_4 rest = some r → Ev (fun n => L_impl_GoodName_0_4 n x1 (x1.length : Int) (k : Int)) r := by
  intro rest
  induction rest with
  | nil =>
    intro k r hr h
    have hk := drop_nil hr
    rw [P_impl_GoodName_0_4] at h
    refine Ev.step ?_ (fun n => L_impl_GoodName_0_4_eq n x1 (x1.length : Int) (k : Int))
    rw [show decide ((k : Int) < (x1.length : Int)) = false from decide_eq_false (by omega)]
    exact Ev.neg rfl (Ev.ofSome h)
  | cons e rest ih =>
    intro k r hr h
    obtain ⟨hk, hx, hr2⟩ := drop_cons (d := 0) hr
    have hw := wrap_succ hl hk
    have ih2 : ∀ (r : Bool), P_impl_GoodName_0_4 rest = some r → Ev (fun n => L_impl_GoodName_0_4 n x1 (x1.length : Int) (IntKind.wrap .i64 ((k : Int) + 1))) r := by
      intro r h; rw [hw]; exact ih (k + 1) r hr2 h
    rw [P_impl_GoodName_0_4] at h
    refine Ev.step ?_ (fun n => L_impl_GoodName_0_4_eq n x1 (x1.length : Int) (k : Int))
    rw [show decide ((k : Int) < (x1.length : Int)) = true from decide_eq_true (by omega), inB_nat2 hk, hx]
    exact Ev.pos rfl (Ev.pos rfl (Ev.ofBif h (fun h => (Ev.ofSome h)) (fun h => (ih2  _ h))))
theorem S_impl_GoodName (a0 : (List Int)) {r : Bool} (h : P_impl_GoodName a0 = some r) : Ev (fun n => F_impl_GoodName n a0) r := by
  rw [P_impl_GoodName] at h
  refine Ev.of_eq ?_ (fun n => F_impl_GoodName_eq n a0)
  exact (Ev.ofBif h (fun h => (Ev.ofSome h)) (fun h => (Ev.ofBif h (fun h => (Ev.ofSome h)) (fun h => (Ev.ofBif h (fun h => (Ev.ofBif h (fun h => (Ev.ofSome h)) (fun h => (Ev.ofLen h fun hl h => S_impl_GoodName_0_4 hl _ (0 : Nat) _ rfl h)))) (fun h => (Ev.ofNone h)))))))
theorem hcs_impl_GoodName : ∀ x ∈ cs_impl_GoodName, CtrOk Try.prog x := (conOf_cons ok_impl_ydigit (conOf_cons ok_impl_ywordByte conOf_nil))
theorem ok_impl_GoodName : CtrOk Try.prog (c_impl_GoodName) := by
  refine ctr_of_run (c := c_impl_GoodName) (by kernel_rfl) (by kernel_rfl : Try.prog.funcs[91]? = some Try.f91) (code := Try.f91.body.getD .skip) (by kernel_rfl) (by kernel_rfl) (by kernel_rfl) (A := A_impl_GoodName) (I := In_impl_GoodName) (hcs_impl_GoodName) ?_
  rintro ⟨a0, u⟩ y hy
  exact (S_impl_GoodName a0 hy).get

/-! ## impl.yrising (123) -/
noncomputable def P_impl_yrising_0_2 (x1 : (List (List Int))) : List (List Int) → Nat → Option Bool
  | [], k =>
      some true
  | e :: rest, k =>
      bif decide ((0 : Int) < (k : Int)) then
        bif inB (IntKind.wrap .i64 ((k : Int) - 1)) x1.length then
          bif !lessI (rd x1 (IntKind.wrap .i64 ((k : Int) - 1)) (Ty.dflt .str)) (e) then
            some false
          else
            P_impl_yrising_0_2 x1 rest (k + 1)
        else none
      else
        P_impl_yrising_0_2 x1 rest (k + 1)
noncomputable def P_impl_yrising (a0 : (List (List Int))) : Option Bool :=
  lenOk a0 (P_impl_yrising_0_2 a0 a0 0)
noncomputable def c_impl_yrising : Ctr := ⟨123, [(.list .str)], [.bool], fun x => P_impl_yrising x.1⟩
def A_impl_yrising : List (List Nat × Ann) := [([0, 2], [.keep 0 0, .keep 0 5, .keep 0 6, .keep 0 7])]
def In_impl_yrising : List (List Nat × Nat) := []
noncomputable def cs_impl_yrising : List Ctr := []
noncomputable def F_impl_yrising (n : Nat) (a0 : (List (List Int))) : Option Bool := run Try.prog A_impl_yrising In_impl_yrising (conOf cs_impl_yrising) Try.f123 (Try.f123.body.getD .skip) (packT [.bool]) n (argsV [(.list .str)] (a0, ()))
noncomputable abbrev L_impl_yrising_0_2 (n : Nat) (x1 : (List (List Int))) (x2 : (List (List Int))) (x3 : Int) (x4 : Int) : Option Bool := lam Try.prog A_impl_yrising In_impl_yrising (conOf cs_impl_yrising) Try.f123 (Try.f123.body.getD .skip) (packT [.bool]) n [0, 2] [.d (.list .str) x1, .d (.list .str) x2, .d I64 x3, .d I64 x4]
theorem F_impl_yrising_eq (n : Nat) (a0 : (List (List Int))) : F_impl_yrising n a0 =
    L_impl_yrising_0_2 n a0 a0 (a0.length : Int) 0 := by kernel_rfl
theorem L_impl_yrising_0_2_eq (n : Nat) (x1 : (List (List Int))) (x2 : (List (List Int))) (x3 : Int) (x4 : Int) : L_impl_yrising_0_2 (n + 1) x1 x2 x3 x4 =
    bif decide (x4 < x3) then
      bif inB x4 x2.length then
        bif decide ((0 : Int) < x4) then
          bif inB (IntKind.wrap .i64 (x4 - 1)) x1.length then
            bif !lessI (rd x1 (IntKind.wrap .i64 (x4 - 1)) (Ty.dflt .str)) (rd x2 x4 (Ty.dflt .str)) then
              some false
            else
              L_impl_yrising_0_2 n x1 x2 x3 (IntKind.wrap .i64 (x4 + 1))
          else none
        else
          L_impl_yrising_0_2 n x1 x2 x3 (IntKind.wrap .i64 (x4 + 1))
      else none
    else
      some true := by kernel_rfl
theorem S_impl_yrising_0_2 {x1 : (List (List Int))} (hl : x1.length ≤ maxLen) : ∀ (rest : List (List Int)) (k : Nat) (r : Bool), rest = x1.drop k → P_impl_yrising_0_2 x1 rest k = some r → Ev (fun n => L_impl_yrising_0_2 n x1 x1 (x1.length : Int) (k : Int)) r := by
  intro rest
  induction rest with
  | nil =>
    intro k r hr h
    have hk := drop_nil hr
    rw [P_impl_yrising_0_2] at h
    refine Ev.step ?_ (fun n => L_impl_yrising_0_2_eq n x1 x1 (x1.length : Int) (k : Int))
    rw [show decide ((k : Int) < (x1.length : Int)) = false from decide_eq_false (by omega)]
    exact Ev.neg rfl (Ev.ofSome h)
  | cons e rest ih =>
    intro k r hr h
    obtain ⟨hk, hx, hr2⟩ := drop_cons (d := (Ty.dflt .str)) hr
    have hw := wrap_succ hl hk
    have ih2 : ∀ (r : Bool), P_impl_yrising_0_2 x1 rest (k + 1) = some r → Ev (fun n => L_impl_yrising_0_2 n x1 x1 (x1.length : Int) (IntKind.wrap .i64 ((k : Int) + 1))) r := by
      intro r h; rw [hw]; exact ih (k + 1) r hr2 h
    rw [P_impl_yrising_0_2] at h
    refine Ev.step ?_ (fun n => L_impl_yrising_0_2_eq n x1 x1 (x1.length : Int) (k : Int))
    rw [show decide ((k : Int) < (x1.length : Int)) = true from decide_eq_true (by omega), inB_nat2 hk, hx]
    exact Ev.pos rfl (Ev.pos rfl (Ev.ofBif h (fun h => (Ev.ofBif h (fun h => (Ev.ofBif h (fun h => (Ev.ofSome h)) (fun h => (ih2  _ h)))) (fun h => (Ev.ofNone h)))) (fun h => (ih2  _ h))))
theorem S_impl_yrising (a0 : (List (List Int))) {r : Bool} (h : P_impl_yrising a0 = some r) : Ev (fun n => F_impl_yrising n a0) r := by
  rw [P_impl_yrising] at h
  refine Ev.of_eq ?_ (fun n => F_impl_yrising_eq n a0)
  exact (Ev.ofLen h fun hl h => S_impl_yrising_0_2 hl _ (0 : Nat) _ rfl h)
theorem hcs_impl_yrising : ∀ x ∈ cs_impl_yrising, CtrOk Try.prog x := conOf_nil
theorem ok_impl_yrising : CtrOk Try.prog (c_impl_yrising) := by
  refine ctr_of_run (c := c_impl_yrising) (by kernel_rfl) (by kernel_rfl : Try.prog.funcs[123]? = some Try.f123) (code := Try.f123.body.getD .skip) (by kernel_rfl) (by kernel_rfl) (by kernel_rfl) (A := A_impl_yrising) (I := In_impl_yrising) (hcs_impl_yrising) ?_
  rintro ⟨a0, u⟩ y hy
  exact (S_impl_yrising a0 hy).get

/-! ## impl.RoleSet).yrole (121) -/
noncomputable def P_impl_RoleSet_yrole_0_2_1003 (x1 : (List Int)) : List DRole → Option (DRole × Bool)
  | [] =>
      some ((([] : List Int), [], []), false)
  | e :: rest =>
      bif decide ((e).1 = x1) then
        some ((e), true)
      else
        P_impl_RoleSet_yrole_0_2_1003 x1 rest
noncomputable def P_impl_RoleSet_yrole (a0 : DRoleSet) (a1 : (List Int)) : Option (DRole × Bool) :=
  lenOk a0.1 (P_impl_RoleSet_yrole_0_2_1003 a1 a0.1)
noncomputable def c_impl_RoleSet_yrole : Ctr := ⟨121, [TyRoleSet, .str], [TyRole, .bool], fun x => P_impl_RoleSet_yrole x.1 x.2.1⟩
def A_impl_RoleSet_yrole : List (List Nat × Ann) := [([0, 2, 1003], [.keep 0 4, .keep 1 1, .keep 1 2, .keep 1 6, .keep 1 11, .keep 1 12, .keep 1 13, .boxd 0 4 TyRole, .boxd 1 6 TyRole])]
def In_impl_RoleSet_yrole : List (List Nat × Nat) := [([1003], 158), ([4002, 1003], 159)]
noncomputable def cs_impl_RoleSet_yrole : List Ctr := []
noncomputable def F_impl_RoleSet_yrole (n : Nat) (a0 : DRoleSet) (a1 : (List Int)) : Option (DRole × Bool) := run Try.prog A_impl_RoleSet_yrole In_impl_RoleSet_yrole (conOf cs_impl_RoleSet_yrole) Try.f121 (Try.f121.body.getD .skip) (packT [TyRole, .bool]) n (argsV [TyRoleSet, .str] (a0, a1, ()))
noncomputable abbrev L_impl_RoleSet_yrole_0_2_1003 (n : Nat) (x1 : (List Int)) (x2 : (List DRole)) (x3 : Int) (x4 : Int) (x5 : DRole) (x6 : DRole) : Option (DRole × Bool) := lam Try.prog A_impl_RoleSet_yrole In_impl_RoleSet_yrole (conOf cs_impl_RoleSet_yrole) Try.f121 (Try.f121.body.getD .skip) (packT [TyRole, .bool]) n [0, 2, 1003] [.ptr 0 4 0, .fn 159 [], .d .str x1, .ptr 1 6 0, .d (.list TyRole) x2, .d I64 x3, .d I64 x4, .agg (explode TyRole x5), .agg (explode TyRole x6)]
theorem F_impl_RoleSet_yrole_eq (n : Nat) (a0 : DRoleSet) (a1 : (List Int)) : F_impl_RoleSet_yrole n a0 a1 =
    L_impl_RoleSet_yrole_0_2_1003 n a1 a0.1 (a0.1.length : Int) 0 (([] : List Int), [], []) (([] : List Int), [], []) := by kernel_rfl
theorem L_impl_RoleSet_yrole_0_2_1003_eq (n : Nat) (x1 : (List Int)) (x2 : (List DRole)) (x3 : Int) (x4 : Int) (x5 : DRole) (x6 : DRole) : L_impl_RoleSet_yrole_0_2_1003 (n + 1) x1 x2 x3 x4 x5 x6 =
    bif decide (x4 < x3) then
      bif inB x4 x2.length then
        bif decide ((rd x2 x4 (Ty.dflt TyRole)).1 = x1) then
          some ((rd x2 x4 (Ty.dflt TyRole)), true)
        else
          L_impl_RoleSet_yrole_0_2_1003 n x1 x2 x3 (IntKind.wrap .i64 (x4 + 1)) x5 x6
      else none
    else
      some ((([] : List Int), [], []), false) := by kernel_rfl
theorem S_impl_RoleSet_yrole_0_2_1003 {x1 : (List Int)} {x2 : (List DRole)} {x5 : DRole} (hl : x2.length ≤ maxLen) : ∀ (rest : List DRole) (k : Nat) (r : (DRole × Bool)), rest = x2.drop k → P_impl_RoleSet_yrole_0_2_1003 x1 rest = some r → Ev (fun n => L_impl_RoleSet_yrole_0_2_1003 n x1 x2 (x2.length : Int) (k : Int) x5 x5) r := by
  intro rest
  induction rest with
  | nil =>
    intro k r hr h
    have hk := drop_nil hr
    rw [P_impl_RoleSet_yrole_0_2_1003] at h
    refine Ev.step ?_ (fun n => L_impl_RoleSet_yrole_0_2_1003_eq n x1 x2 (x2.length : Int) (k : Int) x5 x5)
    rw [show decide ((k : Int) < (x2.length : Int)) = false from decide_eq_false (by omega)]
    exact Ev.neg rfl (Ev.ofSome h)
  | cons e rest ih =>
    intro k r hr h
    obtain ⟨hk, hx, hr2⟩ := drop_cons (d := (Ty.dflt TyRole)) hr
    have hw := wrap_succ hl hk
    have ih2 : ∀ (r : (DRole × Bool)), P_impl_RoleSet_yrole_0_2_1003 x1 rest = some r → Ev (fun n => L_impl_RoleSet_yrole_0_2_1003 n x1 x2 (x2.length : Int) (IntKind.wrap .i64 ((k : Int) + 1)) x5 x5) r := by
      intro r h; rw [hw]; exact ih (k + 1) r hr2 h
    rw [P_impl_RoleSet_yrole_0_2_1003] at h
    refine Ev.step ?_ (fun n => L_impl_RoleSet_yrole_0_2_1003_eq n x1 x2 (x2.length : Int) (k : Int) x5 x5)
    rw [show decide ((k : Int) < (x2.length : Int)) = true from decide_eq_true (by omega), inB_nat2 hk, hx]
    exact Ev.pos rfl (Ev.pos rfl (Ev.ofBif h (fun h => (Ev.ofSome h)) (fun h => (ih2  _ h))))
theorem S_impl_RoleSet_yrole (a0 : DRoleSet) (a1 : (List Int)) {r : (DRole × Bool)} (h : P_impl_RoleSet_yrole a0 a1 = some r) : Ev (fun n => F_impl_RoleSet_yrole n a0 a1) r := by
  rw [P_impl_RoleSet_yrole] at h
  refine Ev.of_eq ?_ (fun n => F_impl_RoleSet_yrole_eq n a0 a1)
  exact (Ev.ofLen h fun hl h => S_impl_RoleSet_yrole_0_2_1003 hl _ (0 : Nat) _ rfl h)
theorem hcs_impl_RoleSet_yrole : ∀ x ∈ cs_impl_RoleSet_yrole, CtrOk Try.prog x := conOf_nil
theorem ok_impl_RoleSet_yrole : CtrOk Try.prog (c_impl_RoleSet_yrole) := by
  refine ctr_of_run (c := c_impl_RoleSet_yrole) (by kernel_rfl) (by kernel_rfl : Try.prog.funcs[121]? = some Try.f121) (code := Try.f121.body.getD .skip) (by kernel_rfl) (by kernel_rfl) (by kernel_rfl) (A := A_impl_RoleSet_yrole) (I := In_impl_RoleSet_yrole) (hcs_impl_RoleSet_yrole) ?_
  rintro ⟨a0, a1, u⟩ y hy
  exact (S_impl_RoleSet_yrole a0 a1 hy).get

/-! ## impl.yallNames (126) -/
noncomputable def P_impl_yallNames_0_2_1002_1001 : List (List Int) → Nat → Option Bool
  | [], k =>
      some true
  | e :: rest, k =>
      Option.bind (P_impl_GoodName (e)) fun (y1 : Bool) =>
      bif !(y1) then
        some (!decide ((0 : Int) ≤ (k : Int)))
      else
        P_impl_yallNames_0_2_1002_1001 rest (k + 1)
noncomputable def P_impl_yallNames (a0 : (List (List Int))) : Option Bool :=
  lenOk a0 (P_impl_yallNames_0_2_1002_1001 a0 0)
noncomputable def c_impl_yallNames : Ctr := ⟨126, [(.list .str)], [.bool], fun x => P_impl_yallNames x.1⟩
def A_impl_yallNames : List (List Nat × Ann) := [([0, 2, 1002, 1001], [.keep 2 0, .keep 2 1, .keep 2 7, .keep 2 8])]
def In_impl_yallNames : List (List Nat × Nat) := [([1001], 124), ([1002, 1001], 160), ([4005, 1002, 1001], 161)]
noncomputable def cs_impl_yallNames : List Ctr := [c_impl_GoodName]
noncomputable def F_impl_yallNames (n : Nat) (a0 : (List (List Int))) : Option Bool := run Try.prog A_impl_yallNames In_impl_yallNames (conOf cs_impl_yallNames) Try.f126 (Try.f126.body.getD .skip) (packT [.bool]) n (argsV [(.list .str)] (a0, ()))
noncomputable abbrev L_impl_yallNames_0_2_1002_1001 (n : Nat) (x1 : (List (List Int))) (x2 : Int) (x3 : Int) : Option Bool := lam Try.prog A_impl_yallNames In_impl_yallNames (conOf cs_impl_yallNames) Try.f126 (Try.f126.body.getD .skip) (packT [.bool]) n [0, 2, 1002, 1001] [.d (.list .str) x1, .fn 161 [], .d I64 x2, .d I64 x3]
theorem F_impl_yallNames_eq (n : Nat) (a0 : (List (List Int))) : F_impl_yallNames n a0 =
    L_impl_yallNames_0_2_1002_1001 n a0 (a0.length : Int) 0 := by kernel_rfl
theorem L_impl_yallNames_0_2_1002_1001_eq (n : Nat) (x1 : (List (List Int))) (x2 : Int) (x3 : Int) : L_impl_yallNames_0_2_1002_1001 (n + 1) x1 x2 x3 =
    bif decide (x3 < x2) then
      bif inB x3 x1.length then
        Option.bind (P_impl_GoodName (rd x1 x3 (Ty.dflt .str))) fun (y1 : Bool) =>
        bif !(y1) then
          some (!decide ((0 : Int) ≤ x3))
        else
          L_impl_yallNames_0_2_1002_1001 n x1 x2 (IntKind.wrap .i64 (x3 + 1))
      else none
    else
      some true := by kernel_rfl
theorem S_impl_yallNames_0_2_1002_1001 {x1 : (List (List Int))} (hl : x1.length ≤ maxLen) : ∀ (rest : List (List Int)) (k : Nat) (r : Bool), rest = x1.drop k → P_impl_yallNames_0_2_1002_1001 rest k = some r → Ev (fun n => L_impl_yallNames_0_2_1002_1001 n x1 (x1.length : Int) (k : Int)) r := by
  intro rest
  induction rest with
  | nil =>
    intro k r hr h
    have hk := drop_nil hr
    rw [P_impl_yallNames_0_2_1002_1001] at h
    refine Ev.step ?_ (fun n => L_impl_yallNames_0_2_1002_1001_eq n x1 (x1.length : Int) (k : Int))
    rw [show decide ((k : Int) < (x1.length : Int)) = false from decide_eq_false (by omega)]
    exact Ev.neg rfl (Ev.ofSome h)
  | cons e rest ih =>
    intro k r hr h
    obtain ⟨hk, hx, hr2⟩ := drop_cons (d := (Ty.dflt .str)) hr
    have hw := wrap_succ hl hk
    have ih2 : ∀ (r : Bool), P_impl_yallNames_0_2_1002_1001 rest (k + 1) = some r → Ev (fun n => L_impl_yallNames_0_2_1002_1001 n x1 (x1.length : Int) (IntKind.wrap .i64 ((k : Int) + 1))) r := by
      intro r h; rw [hw]; exact ih (k + 1) r hr2 h
    rw [P_impl_yallNames_0_2_1002_1001] at h
    refine Ev.step ?_ (fun n => L_impl_yallNames_0_2_1002_1001_eq n x1 (x1.length : Int) (k : Int))
    rw [show decide ((k : Int) < (x1.length : Int)) = true from decide_eq_true (by omega), inB_nat2 hk, hx]
    exact Ev.pos rfl (Ev.pos rfl (Ev.ofBind h fun y1 h => (Ev.ofBif h (fun h => (Ev.ofSome h)) (fun h => (ih2  _ h)))))
theorem S_impl_yallNames (a0 : (List (List Int))) {r : Bool} (h : P_impl_yallNames a0 = some r) : Ev (fun n => F_impl_yallNames n a0) r := by
  rw [P_impl_yallNames] at h
  refine Ev.of_eq ?_ (fun n => F_impl_yallNames_eq n a0)
  exact (Ev.ofLen h fun hl h => S_impl_yallNames_0_2_1002_1001 hl _ (0 : Nat) _ rfl h)
theorem hcs_impl_yallNames : ∀ x ∈ cs_impl_yallNames, CtrOk Try.prog x := (conOf_cons ok_impl_GoodName conOf_nil)
theorem ok_impl_yallNames : CtrOk Try.prog (c_impl_yallNames) := by
  refine ctr_of_run (c := c_impl_yallNames) (by kernel_rfl) (by kernel_rfl : Try.prog.funcs[126]? = some Try.f126) (code := Try.f126.body.getD .skip) (by kernel_rfl) (by kernel_rfl) (by kernel_rfl) (A := A_impl_yallNames) (I := In_impl_yallNames) (hcs_impl_yallNames) ?_
  rintro ⟨a0, u⟩ y hy
  exact (S_impl_yallNames a0 hy).get

/-! ## slices.Clone[[]string,string] (128) -/
noncomputable def P_slices_Clone_string_string (a0 : (List (List Int))) : Option (List (List Int)) :=
  bif decide (0 < a0.length) then
    bif decide (((([] : List (List Int)).length : Int) + (a0.length : Int)) * 16 ≤ room) && decide ((([] : List (List Int)).length : Int) + (a0.length : Int) ≤ room) then
      some (([] : List (List Int)) ++ a0)
    else none
  else
    both
      (some ([]))
      (bif decide (((([] : List (List Int)).length : Int) + (a0.length : Int)) * 16 ≤ room) && decide ((([] : List (List Int)).length : Int) + (a0.length : Int) ≤ room) then
        some (([] : List (List Int)) ++ a0)
      else none)
noncomputable def c_slices_Clone_string_string : Ctr := ⟨128, [(.list .str)], [(.list .str)], fun x => P_slices_Clone_string_string x.1⟩
def A_slices_Clone_string_string : List (List Nat × Ann) := []
def In_slices_Clone_string_string : List (List Nat × Nat) := []
noncomputable def cs_slices_Clone_string_string : List Ctr := []
noncomputable def F_slices_Clone_string_string (n : Nat) (a0 : (List (List Int))) : Option (List (List Int)) := run Try.prog A_slices_Clone_string_string In_slices_Clone_string_string (conOf cs_slices_Clone_string_string) Try.f128 (Try.f128.body.getD .skip) (packT [(.list .str)]) n (argsV [(.list .str)] (a0, ()))
theorem F_slices_Clone_string_string_eq (n : Nat) (a0 : (List (List Int))) : F_slices_Clone_string_string n a0 =
    bif decide (0 < a0.length) then
      bif decide (((([] : List (List Int)).length : Int) + (a0.length : Int)) * 16 ≤ room) && decide ((([] : List (List Int)).length : Int) + (a0.length : Int) ≤ room) then
        some (([] : List (List Int)) ++ a0)
      else none
    else
      both
        (some ([]))
        (bif decide (((([] : List (List Int)).length : Int) + (a0.length : Int)) * 16 ≤ room) && decide ((([] : List (List Int)).length : Int) + (a0.length : Int) ≤ room) then
          some (([] : List (List Int)) ++ a0)
        else none) := by kernel_rfl
theorem S_slices_Clone_string_string (a0 : (List (List Int))) {r : (List (List Int))} (h : P_slices_Clone_string_string a0 = some r) : Ev (fun n => F_slices_Clone_string_string n a0) r := by
  rw [P_slices_Clone_string_string] at h
  refine Ev.of_eq ?_ (fun n => F_slices_Clone_string_string_eq n a0)
  exact (Ev.ofBif h (fun h => (Ev.ofBif h (fun h => (Ev.ofSome h)) (fun h => (Ev.ofNone h)))) (fun h => (Ev.ofBoth h (fun h => (Ev.ofSome h)) (fun h => (Ev.ofBif h (fun h => (Ev.ofSome h)) (fun h => (Ev.ofNone h)))))))
theorem hcs_slices_Clone_string_string : ∀ x ∈ cs_slices_Clone_string_string, CtrOk Try.prog x := conOf_nil
theorem ok_slices_Clone_string_string : CtrOk Try.prog (c_slices_Clone_string_string) := by
  refine ctr_of_run (c := c_slices_Clone_string_string) (by kernel_rfl) (by kernel_rfl : Try.prog.funcs[128]? = some Try.f128) (code := Try.f128.body.getD .skip) (by kernel_rfl) (by kernel_rfl) (by kernel_rfl) (A := A_slices_Clone_string_string) (I := In_slices_Clone_string_string) (hcs_slices_Clone_string_string) ?_
  rintro ⟨a0, u⟩ y hy
  exact (S_slices_Clone_string_string a0 hy).get

/-! ## slices.Clone[[]string,string] (128) -/
noncomputable def co_slices_Clone_string_string : Ctr := ownOf 128 [(.list .str)] .str fun x => P_slices_Clone_string_string x.1
def Ao_slices_Clone_string_string : List (List Nat × Ann) := []
def Ino_slices_Clone_string_string : List (List Nat × Nat) := []
noncomputable def cso_slices_Clone_string_string : List Ctr := []
noncomputable def Fo_slices_Clone_string_string (n : Nat) (a0 : (List (List Int))) : Option (List (List Int)) := runE Try.prog noG Ao_slices_Clone_string_string Ino_slices_Clone_string_string (conOf cso_slices_Clone_string_string) Try.f128 (Try.f128.body.getD .skip) (endO Try.prog Try.f128 .str) n (argsV [(.list .str)] (a0, ()))
theorem Fo_slices_Clone_string_string_eq (n : Nat) (a0 : (List (List Int))) : Fo_slices_Clone_string_string n a0 =
    bif decide (0 < a0.length) then
      bif decide (((([] : List (List Int)).length : Int) + (a0.length : Int)) * 16 ≤ room) && decide ((([] : List (List Int)).length : Int) + (a0.length : Int) ≤ room) then
        some (([] : List (List Int)) ++ a0)
      else none
    else
      both
        (some ([]))
        (bif decide (((([] : List (List Int)).length : Int) + (a0.length : Int)) * 16 ≤ room) && decide ((([] : List (List Int)).length : Int) + (a0.length : Int) ≤ room) then
          some (([] : List (List Int)) ++ a0)
        else none) := by kernel_rfl
theorem So_slices_Clone_string_string (a0 : (List (List Int))) {r : (List (List Int))} (h : P_slices_Clone_string_string a0 = some r) : Ev (fun n => Fo_slices_Clone_string_string n a0) r := by
  rw [P_slices_Clone_string_string] at h
  refine Ev.of_eq ?_ (fun n => Fo_slices_Clone_string_string_eq n a0)
  exact (Ev.ofBif h (fun h => (Ev.ofBif h (fun h => (Ev.ofSome h)) (fun h => (Ev.ofNone h)))) (fun h => (Ev.ofBoth h (fun h => (Ev.ofSome h)) (fun h => (Ev.ofBif h (fun h => (Ev.ofSome h)) (fun h => (Ev.ofNone h)))))))
theorem hcso_slices_Clone_string_string : ∀ x ∈ cso_slices_Clone_string_string, CtrOk Try.prog x := conOf_nil
theorem oko_slices_Clone_string_string : CtrOk Try.prog (co_slices_Clone_string_string) := by
  refine ctr_of_own (by kernel_rfl) (by kernel_rfl : Try.prog.funcs[128]? = some Try.f128) (code := Try.f128.body.getD .skip) (by kernel_rfl) (by kernel_rfl) (A := Ao_slices_Clone_string_string) (I := Ino_slices_Clone_string_string) (hcso_slices_Clone_string_string) ?_
  rintro ⟨a0, u⟩ y hy
  exact (So_slices_Clone_string_string a0 hy).get

/-! ## impl.RoleSet).yjuniors (73) -/
noncomputable def P_impl_RoleSet_yjuniors_0_3 (x2 : DRoleSet) : Nat → (List (List Int)) → (List ((List Int) × Bool)) → Option (List ((List Int) × Bool))
  | 0, _, _ => none
  | m + 1, x1, x3 =>
      bif decide ((0 : Int) < (x1.length : Int)) then
        bif inB 0 x1.length then
          Option.bind (P_impl_RoleSet_yrole x2 (rd x1 0 (Ty.dflt .str))) fun (y2 : (DRole × Bool)) =>
          bif !(y2.2) then
            bif true && decide ((1 : Int) ≤ (x1.length : Int)) then
              P_impl_RoleSet_yjuniors_0_3 x2 m (cut x1 1 (x1.length : Int)) x3
            else none
          else
            bif getM .str x3 y2.1.1 false then
              bif true && decide ((1 : Int) ≤ (x1.length : Int)) then
                P_impl_RoleSet_yjuniors_0_3 x2 m (cut x1 1 (x1.length : Int)) x3
              else none
            else
              bif decide (((x1.length : Int) + (y2.1.2.1.length : Int)) * 16 ≤ room) && decide ((x1.length : Int) + (y2.1.2.1.length : Int) ≤ room) then
                bif true && decide ((1 : Int) ≤ ((x1 ++ y2.1.2.1).length : Int)) then
                  P_impl_RoleSet_yjuniors_0_3 x2 m (cut (x1 ++ y2.1.2.1) 1 ((x1 ++ y2.1.2.1).length : Int)) (setM .str x3 y2.1.1 true)
                else none
              else none
        else none
      else
        some x3
noncomputable def P_impl_RoleSet_yjuniors (m : Nat) (a0 : DRoleSet) (a1 : (List (List Int))) : Option (List ((List Int) × Bool)) :=
  Option.bind (P_slices_Clone_string_string a1) fun (y1 : (List (List Int))) =>
  P_impl_RoleSet_yjuniors_0_3 a0 m y1 []
noncomputable def E_impl_RoleSet_yjuniors (a0 : DRoleSet) (a1 : (List (List Int))) : Option (List ((List Int) × Bool)) := evOpt fun m => P_impl_RoleSet_yjuniors m a0 a1
noncomputable def c_impl_RoleSet_yjuniors : Ctr := ⟨73, [TyRoleSet, (.list .str)], [(.map .str .bool)], fun x => E_impl_RoleSet_yjuniors x.1 x.2.1⟩
def A_impl_RoleSet_yjuniors : List (List Nat × Ann) := [([0, 3], [.keep 0 2, .keep 0 5, .own 0 6 .str, .boxd 0 2 TyRoleSet, .mapb 0 9 .str .bool])]
def In_impl_RoleSet_yjuniors : List (List Nat × Nat) := [([2001], 1000128)]
noncomputable def cs_impl_RoleSet_yjuniors : List Ctr := [co_slices_Clone_string_string, c_impl_RoleSet_yrole]
noncomputable def F_impl_RoleSet_yjuniors (n : Nat) (a0 : DRoleSet) (a1 : (List (List Int))) : Option (List ((List Int) × Bool)) := run Try.prog A_impl_RoleSet_yjuniors In_impl_RoleSet_yjuniors (conOf cs_impl_RoleSet_yjuniors) Try.f73 (Try.f73.body.getD .skip) (packT [(.map .str .bool)]) n (argsV [TyRoleSet, (.list .str)] (a0, a1, ()))
noncomputable abbrev L_impl_RoleSet_yjuniors_0_3 (n : Nat) (x1 : (List (List Int))) (x2 : DRoleSet) (x3 : (List ((List Int) × Bool))) : Option (List ((List Int) × Bool)) := lam Try.prog A_impl_RoleSet_yjuniors In_impl_RoleSet_yjuniors (conOf cs_impl_RoleSet_yjuniors) Try.f73 (Try.f73.body.getD .skip) (packT [(.map .str .bool)]) n [0, 3] [.ptr 0 2 0, .mp 0 9, .own 0 .str x1, .agg (explode TyRoleSet x2), .d (.map .str .bool) x3]
theorem F_impl_RoleSet_yjuniors_eq (n : Nat) (a0 : DRoleSet) (a1 : (List (List Int))) : F_impl_RoleSet_yjuniors n a0 a1 =
    Option.bind (P_slices_Clone_string_string a1) fun (y1 : (List (List Int))) =>
    L_impl_RoleSet_yjuniors_0_3 n y1 a0 [] := by kernel_rfl
theorem L_impl_RoleSet_yjuniors_0_3_eq (n : Nat) (x1 : (List (List Int))) (x2 : DRoleSet) (x3 : (List ((List Int) × Bool))) : L_impl_RoleSet_yjuniors_0_3 (n + 1) x1 x2 x3 =
    bif decide ((0 : Int) < (x1.length : Int)) then
      bif inB 0 x1.length then
        Option.bind (P_impl_RoleSet_yrole x2 (rd x1 0 (Ty.dflt .str))) fun (y2 : (DRole × Bool)) =>
        bif !(y2.2) then
          bif true && decide ((1 : Int) ≤ (x1.length : Int)) then
            L_impl_RoleSet_yjuniors_0_3 n (cut x1 1 (x1.length : Int)) x2 x3
          else none
        else
          bif getM .str x3 y2.1.1 false then
            bif true && decide ((1 : Int) ≤ (x1.length : Int)) then
              L_impl_RoleSet_yjuniors_0_3 n (cut x1 1 (x1.length : Int)) x2 x3
            else none
          else
            bif decide (((x1.length : Int) + (y2.1.2.1.length : Int)) * 16 ≤ room) && decide ((x1.length : Int) + (y2.1.2.1.length : Int) ≤ room) then
              bif true && decide ((1 : Int) ≤ ((x1 ++ y2.1.2.1).length : Int)) then
                L_impl_RoleSet_yjuniors_0_3 n (cut (x1 ++ y2.1.2.1) 1 ((x1 ++ y2.1.2.1).length : Int)) x2 (setM .str x3 y2.1.1 true)
              else none
            else none
      else none
    else
      some x3 := by kernel_rfl
theorem S_impl_RoleSet_yjuniors_0_3 {x2 : DRoleSet} : ∀ (m : Nat) (x1 : (List (List Int))) (x3 : (List ((List Int) × Bool))) (r : (List ((List Int) × Bool))), P_impl_RoleSet_yjuniors_0_3 x2 m x1 x3 = some r → Ev (fun n => L_impl_RoleSet_yjuniors_0_3 n x1 x2 x3) r := by
  intro m
  induction m with
  | zero => intro x1 x3 r h; rw [P_impl_RoleSet_yjuniors_0_3] at h; exact Ev.ofNone h
  | succ m ih2 =>
    intro x1 x3 r h
    rw [P_impl_RoleSet_yjuniors_0_3] at h
    refine Ev.step ?_ (fun n => L_impl_RoleSet_yjuniors_0_3_eq n x1 x2 x3)
    exact (Ev.ofBif h (fun h => (Ev.ofBif h (fun h => (Ev.ofBind h fun y2 h => (Ev.ofBif h (fun h => (Ev.ofBif h (fun h => (ih2 _ _ _ h)) (fun h => (Ev.ofNone h)))) (fun h => (Ev.ofBif h (fun h => (Ev.ofBif h (fun h => (ih2 _ _ _ h)) (fun h => (Ev.ofNone h)))) (fun h => (Ev.ofBif h (fun h => (Ev.ofBif h (fun h => (ih2 _ _ _ h)) (fun h => (Ev.ofNone h)))) (fun h => (Ev.ofNone h))))))))) (fun h => (Ev.ofNone h)))) (fun h => (Ev.ofSome h)))
theorem S_impl_RoleSet_yjuniors {m : Nat} (a0 : DRoleSet) (a1 : (List (List Int))) {r : (List ((List Int) × Bool))} (h : P_impl_RoleSet_yjuniors m a0 a1 = some r) : Ev (fun n => F_impl_RoleSet_yjuniors n a0 a1) r := by
  rw [P_impl_RoleSet_yjuniors] at h
  refine Ev.of_eq ?_ (fun n => F_impl_RoleSet_yjuniors_eq n a0 a1)
  exact (Ev.ofBind h fun y1 h => (S_impl_RoleSet_yjuniors_0_3 _ _ _ _ h))
theorem hcs_impl_RoleSet_yjuniors : ∀ x ∈ cs_impl_RoleSet_yjuniors, CtrOk Try.prog x := (conOf_cons oko_slices_Clone_string_string (conOf_cons ok_impl_RoleSet_yrole conOf_nil))
theorem ok_impl_RoleSet_yjuniors : CtrOk Try.prog (c_impl_RoleSet_yjuniors) := by
  refine ctr_of_run (c := c_impl_RoleSet_yjuniors) (by kernel_rfl) (by kernel_rfl : Try.prog.funcs[73]? = some Try.f73) (code := Try.f73.body.getD .skip) (by kernel_rfl) (by kernel_rfl) (by kernel_rfl) (A := A_impl_RoleSet_yjuniors) (I := In_impl_RoleSet_yjuniors) (hcs_impl_RoleSet_yjuniors) ?_
  rintro ⟨a0, a1, u⟩ y hy
  exact let ⟨_, h⟩ := (evOpt_get hy).get; (S_impl_RoleSet_yjuniors a0 a1 h).get

/-! ## impl.GoodRoleSet (71) -/
noncomputable def P_impl_GoodRoleSet_0_2_1002_1005_8024 (K0 : Option Bool) (x9 : DRoleSet) (x10 : DRole) : List (List Int) → Nat → Option Bool
  | [], k =>
      bif false then
        some false
      else
        bif decide ((20 : Int) < (x10.2.2.length : Int)) then
          some false
        else
          Option.bind (P_impl_yrising x10.2.2) fun (y6 : Bool) =>
          bif !(y6) then
            some false
          else
            Option.bind (P_impl_yallNames x10.2.2) fun (y7 : Bool) =>
            bif !(y7) then
              some false
            else
              K0
  | e :: rest, k =>
      Option.bind (P_impl_RoleSet_yrole x9 (e)) fun (y3 : (DRole × Bool)) =>
      bif !(y3.2) then
        bif false then
          some false
        else
          bif !(!decide ((0 : Int) ≤ (k : Int))) then
            some false
          else
            bif decide ((20 : Int) < (x10.2.2.length : Int)) then
              some false
            else
              Option.bind (P_impl_yrising x10.2.2) fun (y4 : Bool) =>
              bif !(y4) then
                some false
              else
                Option.bind (P_impl_yallNames x10.2.2) fun (y5 : Bool) =>
                bif !(y5) then
                  some false
                else
                  K0
      else
        P_impl_GoodRoleSet_0_2_1002_1005_8024 K0 x9 x10 rest (k + 1)
noncomputable def P_impl_GoodRoleSet_0_2_1002_1005_20003 (K3 : Option Bool) (x8 : DRoleSet) (x9 : DApart) : List (List Int) → Nat → Option Bool
  | [], k =>
      bif decide ((x9.1.length : Int) < 2) then
        some false
      else
        bif decide (x9.2.1 < 1) then
          some false
        else
          bif decide (IntKind.wrap .i64 ((x9.1.length : Int) - 1) < x9.2.1) then
            some false
          else
            K3
  | e :: rest, k =>
      Option.bind (P_impl_RoleSet_yrole x8 (e)) fun (y11 : (DRole × Bool)) =>
      bif !(y11.2) then
        bif !(!decide ((0 : Int) ≤ (k : Int))) then
          some false
        else
          bif decide ((x9.1.length : Int) < 2) then
            some false
          else
            bif decide (x9.2.1 < 1) then
              some false
            else
              bif decide (IntKind.wrap .i64 ((x9.1.length : Int) - 1) < x9.2.1) then
                some false
              else
                K3
      else
        P_impl_GoodRoleSet_0_2_1002_1005_20003 K3 x8 x9 rest (k + 1)
noncomputable def P_impl_GoodRoleSet_0_2_1002_1005_23003 (x5 : DRoleSet) : List (List Int) → Nat → Option Bool
  | [], k =>
      some true
  | e :: rest, k =>
      Option.bind (P_impl_RoleSet_yrole x5 (e)) fun (y13 : (DRole × Bool)) =>
      bif !(y13.2) then
        some (!decide ((0 : Int) ≤ (k : Int)))
      else
        P_impl_GoodRoleSet_0_2_1002_1005_23003 x5 rest (k + 1)
noncomputable def P_impl_GoodRoleSet_0_18 (x4 : DRoleSet) : List DApart → Option Bool
  | [] =>
      Option.bind (P_impl_yrising x4.2.2) fun (y12 : Bool) =>
      bif y12 then
        lenOk x4.2.2 (P_impl_GoodRoleSet_0_2_1002_1005_23003 x4 x4.2.2 0)
      else
        some false
  | e :: rest =>
      Option.bind (P_impl_yrising ((e).1)) fun (y10 : Bool) =>
      bif y10 then
        lenOk ((e).1) (P_impl_GoodRoleSet_0_2_1002_1005_20003 (P_impl_GoodRoleSet_0_18 x4 rest) x4 (e) ((e).1) 0)
      else
        some false
noncomputable def P_impl_GoodRoleSet_0_12 (x4 : DRoleSet) : List DRole → Option Bool
  | [] =>
      lenOk x4.2.1 (P_impl_GoodRoleSet_0_18 x4 x4.2.1)
  | e :: rest =>
      Option.bind (E_impl_RoleSet_yjuniors x4 (((e).2).1)) fun (y9 : (List ((List Int) × Bool))) =>
      bif getM .str y9 ((e).1) false then
        some false
      else
        P_impl_GoodRoleSet_0_12 x4 rest
noncomputable def P_impl_GoodRoleSet_0_6 (x4 : DRoleSet) : List DRole → Nat → Option Bool
  | [], k =>
      lenOk x4.1 (P_impl_GoodRoleSet_0_12 x4 x4.1)
  | e :: rest, k =>
      Option.bind (P_impl_GoodName ((e).1)) fun (y1 : Bool) =>
      bif !(y1) then
        some false
      else
        bif decide ((0 : Int) < (k : Int)) then
          bif inB (IntKind.wrap .i64 ((k : Int) - 1)) x4.1.length then
            bif !lessI ((rd x4.1 (IntKind.wrap .i64 ((k : Int) - 1)) (Ty.dflt TyRole)).1) ((e).1) then
              some false
            else
              Option.bind (P_impl_yrising (((e).2).1)) fun (y2 : Bool) =>
              bif y2 then
                lenOk (((e).2).1) (P_impl_GoodRoleSet_0_2_1002_1005_8024 (P_impl_GoodRoleSet_0_6 x4 rest (k + 1)) x4 (e) (((e).2).1) 0)
              else
                some false
          else none
        else
          Option.bind (P_impl_yrising (((e).2).1)) fun (y8 : Bool) =>
          bif y8 then
            lenOk (((e).2).1) (P_impl_GoodRoleSet_0_2_1002_1005_8024 (P_impl_GoodRoleSet_0_6 x4 rest (k + 1)) x4 (e) (((e).2).1) 0)
          else
            some false
noncomputable def P_impl_GoodRoleSet (a0 : DRoleSet) : Option Bool :=
  bif decide ((30 : Int) < (a0.1.length : Int)) then
    some false
  else
    bif decide ((10 : Int) < (a0.2.1.length : Int)) then
      some false
    else
      lenOk a0.1 (P_impl_GoodRoleSet_0_6 a0 a0.1 0)
noncomputable def c_impl_GoodRoleSet : Ctr := ⟨71, [TyRoleSet], [.bool], fun x => P_impl_GoodRoleSet x.1⟩
def A_impl_GoodRoleSet : List (List Nat × Ann) := [([0, 6], [.keep 0 1, .keep 0 4, .keep 0 24, .keep 0 25, .keep 0 26, .boxd 0 1 TyRoleSet, .box 0 3 1]), ([0, 2, 1002, 1005, 8024], [.keep 0 1, .keep 0 4, .keep 0 6, .keep 0 24, .keep 0 25, .keep 0 26, .keep 0 51, .keep 1 6, .keep 3 0, .keep 3 1, .keep 3 7, .keep 3 8, .boxd 0 1 TyRoleSet, .box 0 3 1, .boxd 0 6 TyRole]), ([0, 12], [.keep 0 1, .keep 0 4, .keep 0 78, .keep 0 79, .keep 0 80, .boxd 0 1 TyRoleSet, .box 0 3 1]), ([0, 18], [.keep 0 1, .keep 0 4, .keep 0 93, .keep 0 94, .keep 0 95, .boxd 0 1 TyRoleSet, .box 0 3 1]), ([0, 2, 1002, 1005, 20003], [.keep 0 1, .keep 0 4, .keep 0 10, .keep 0 93, .keep 0 94, .keep 0 95, .keep 1 6, .keep 3 0, .keep 3 1, .keep 3 7, .keep 3 8, .boxd 0 1 TyRoleSet, .box 0 3 1, .boxd 0 10 TyApart]), ([0, 2, 1002, 1005, 23003], [.keep 1 6, .keep 3 0, .keep 3 1, .keep 3 7, .keep 3 8, .box 0 3 1, .boxd 0 1 TyRoleSet])]
def In_impl_GoodRoleSet : List (List Nat × Nat) := [([8024], 122), ([1005, 8024], 124), ([1002, 1005, 8024], 160), ([4005, 1002, 1005, 8024], 125), ([1002, 4005, 1002, 1005, 8024], 120), ([20003], 122), ([1005, 20003], 124), ([1002, 1005, 20003], 160), ([4005, 1002, 1005, 20003], 125), ([1002, 4005, 1002, 1005, 20003], 120), ([23003], 122), ([1005, 23003], 124), ([1002, 1005, 23003], 160), ([4005, 1002, 1005, 23003], 125), ([1002, 4005, 1002, 1005, 23003], 120)]
noncomputable def cs_impl_GoodRoleSet : List Ctr := [c_impl_GoodName, c_impl_yrising, c_impl_RoleSet_yrole, c_impl_yallNames, c_impl_RoleSet_yjuniors]
noncomputable def F_impl_GoodRoleSet (n : Nat) (a0 : DRoleSet) : Option Bool := run Try.prog A_impl_GoodRoleSet In_impl_GoodRoleSet (conOf cs_impl_GoodRoleSet) Try.f71 (Try.f71.body.getD .skip) (packT [.bool]) n (argsV [TyRoleSet] (a0, ()))
noncomputable abbrev L_impl_GoodRoleSet_0_6 (n : Nat) (x1 : (List DRole)) (x2 : Int) (x3 : Int) (x4 : DRoleSet) : Option Bool := lam Try.prog A_impl_GoodRoleSet In_impl_GoodRoleSet (conOf cs_impl_GoodRoleSet) Try.f71 (Try.f71.body.getD .skip) (packT [.bool]) n [0, 6] [.ptr 0 1 0, .fn 122 [.ptr 0 3 0], .d (.list TyRole) x1, .d I64 x2, .d I64 x3, .agg (explode TyRoleSet x4), .agg [.fn 120 [.ptr 0 1 0]]]
noncomputable abbrev L_impl_GoodRoleSet_0_2_1002_1005_8024 (n : Nat) (x1 : (List DRole)) (x2 : Int) (x3 : Int) (x4 : Bool) (x5 : Bool) (x6 : (List (List Int))) (x7 : Int) (x8 : Int) (x9 : DRoleSet) (x10 : DRole) : Option Bool := lam Try.prog A_impl_GoodRoleSet In_impl_GoodRoleSet (conOf cs_impl_GoodRoleSet) Try.f71 (Try.f71.body.getD .skip) (packT [.bool]) n [0, 2, 1002, 1005, 8024] [.ptr 0 1 0, .fn 122 [.ptr 0 3 0], .ptr 0 6 0, .d (.list TyRole) x1, .d I64 x2, .d I64 x3, .d .bool x4, .d .bool x5, .d (.list .str) x6, .fn 125 [.ptr 0 3 0], .d I64 x7, .d I64 x8, .agg (explode TyRoleSet x9), .agg [.fn 120 [.ptr 0 1 0]], .agg (explode TyRole x10)]
noncomputable abbrev L_impl_GoodRoleSet_0_12 (n : Nat) (x1 : (List DRole)) (x2 : Int) (x3 : Int) (x4 : DRoleSet) : Option Bool := lam Try.prog A_impl_GoodRoleSet In_impl_GoodRoleSet (conOf cs_impl_GoodRoleSet) Try.f71 (Try.f71.body.getD .skip) (packT [.bool]) n [0, 12] [.ptr 0 1 0, .fn 122 [.ptr 0 3 0], .d (.list TyRole) x1, .d I64 x2, .d I64 x3, .agg (explode TyRoleSet x4), .agg [.fn 120 [.ptr 0 1 0]]]
noncomputable abbrev L_impl_GoodRoleSet_0_18 (n : Nat) (x1 : (List DApart)) (x2 : Int) (x3 : Int) (x4 : DRoleSet) : Option Bool := lam Try.prog A_impl_GoodRoleSet In_impl_GoodRoleSet (conOf cs_impl_GoodRoleSet) Try.f71 (Try.f71.body.getD .skip) (packT [.bool]) n [0, 18] [.ptr 0 1 0, .fn 122 [.ptr 0 3 0], .d (.list TyApart) x1, .d I64 x2, .d I64 x3, .agg (explode TyRoleSet x4), .agg [.fn 120 [.ptr 0 1 0]]]
noncomputable abbrev L_impl_GoodRoleSet_0_2_1002_1005_20003 (n : Nat) (x1 : (List DApart)) (x2 : Int) (x3 : Int) (x4 : Bool) (x5 : (List (List Int))) (x6 : Int) (x7 : Int) (x8 : DRoleSet) (x9 : DApart) : Option Bool := lam Try.prog A_impl_GoodRoleSet In_impl_GoodRoleSet (conOf cs_impl_GoodRoleSet) Try.f71 (Try.f71.body.getD .skip) (packT [.bool]) n [0, 2, 1002, 1005, 20003] [.ptr 0 1 0, .fn 122 [.ptr 0 3 0], .ptr 0 10 0, .d (.list TyApart) x1, .d I64 x2, .d I64 x3, .d .bool x4, .d (.list .str) x5, .fn 125 [.ptr 0 3 0], .d I64 x6, .d I64 x7, .agg (explode TyRoleSet x8), .agg [.fn 120 [.ptr 0 1 0]], .agg (explode TyApart x9)]
noncomputable abbrev L_impl_GoodRoleSet_0_2_1002_1005_23003 (n : Nat) (x1 : Bool) (x2 : (List (List Int))) (x3 : Int) (x4 : Int) (x5 : DRoleSet) : Option Bool := lam Try.prog A_impl_GoodRoleSet In_impl_GoodRoleSet (conOf cs_impl_GoodRoleSet) Try.f71 (Try.f71.body.getD .skip) (packT [.bool]) n [0, 2, 1002, 1005, 23003] [.d .bool x1, .d (.list .str) x2, .fn 125 [.ptr 0 3 0], .d I64 x3, .d I64 x4, .agg [.fn 120 [.ptr 0 1 0]], .agg (explode TyRoleSet x5)]
theorem F_impl_GoodRoleSet_eq (n : Nat) (a0 : DRoleSet) : F_impl_GoodRoleSet n a0 =
    bif decide ((30 : Int) < (a0.1.length : Int)) then
      some false
    else
      bif decide ((10 : Int) < (a0.2.1.length : Int)) then
        some false
      else
        L_impl_GoodRoleSet_0_6 n a0.1 (a0.1.length : Int) 0 a0 := by kernel_rfl
theorem L_impl_GoodRoleSet_0_6_eq (n : Nat) (x1 : (List DRole)) (x2 : Int) (x3 : Int) (x4 : DRoleSet) : L_impl_GoodRoleSet_0_6 (n + 1) x1 x2 x3 x4 =
    bif decide (x3 < x2) then
      bif inB x3 x1.length then
        Option.bind (P_impl_GoodName ((rd x1 x3 (Ty.dflt TyRole)).1)) fun (y1 : Bool) =>
        bif !(y1) then
          some false
        else
          bif decide ((0 : Int) < x3) then
            bif inB (IntKind.wrap .i64 (x3 - 1)) x4.1.length then
              bif !lessI ((rd x4.1 (IntKind.wrap .i64 (x3 - 1)) (Ty.dflt TyRole)).1) ((rd x1 x3 (Ty.dflt TyRole)).1) then
                some false
              else
                Option.bind (P_impl_yrising (((rd x1 x3 (Ty.dflt TyRole)).2).1)) fun (y2 : Bool) =>
                bif y2 then
                  L_impl_GoodRoleSet_0_2_1002_1005_8024 n x1 x2 x3 false true (((rd x1 x3 (Ty.dflt TyRole)).2).1) ((((rd x1 x3 (Ty.dflt TyRole)).2).1).length : Int) 0 x4 (rd x1 x3 (Ty.dflt TyRole))
                else
                  some false
            else none
          else
            Option.bind (P_impl_yrising (((rd x1 x3 (Ty.dflt TyRole)).2).1)) fun (y8 : Bool) =>
            bif y8 then
              L_impl_GoodRoleSet_0_2_1002_1005_8024 n x1 x2 x3 false true (((rd x1 x3 (Ty.dflt TyRole)).2).1) ((((rd x1 x3 (Ty.dflt TyRole)).2).1).length : Int) 0 x4 (rd x1 x3 (Ty.dflt TyRole))
            else
              some false
      else none
    else
      L_impl_GoodRoleSet_0_12 n x4.1 (x4.1.length : Int) 0 x4 := by kernel_rfl
theorem L_impl_GoodRoleSet_0_2_1002_1005_8024_eq (n : Nat) (x1 : (List DRole)) (x2 : Int) (x3 : Int) (x4 : Bool) (x5 : Bool) (x6 : (List (List Int))) (x7 : Int) (x8 : Int) (x9 : DRoleSet) (x10 : DRole) : L_impl_GoodRoleSet_0_2_1002_1005_8024 (n + 1) x1 x2 x3 x4 x5 x6 x7 x8 x9 x10 =
    bif decide (x8 < x7) then
      bif inB x8 x6.length then
        Option.bind (P_impl_RoleSet_yrole x9 (rd x6 x8 (Ty.dflt .str))) fun (y3 : (DRole × Bool)) =>
        bif !(y3.2) then
          bif x5 then
            bif x4 then
              some false
            else
              bif !(!decide ((0 : Int) ≤ x8)) then
                some false
              else
                bif decide ((20 : Int) < (x10.2.2.length : Int)) then
                  some false
                else
                  Option.bind (P_impl_yrising x10.2.2) fun (y4 : Bool) =>
                  bif !(y4) then
                    some false
                  else
                    Option.bind (P_impl_yallNames x10.2.2) fun (y5 : Bool) =>
                    bif !(y5) then
                      some false
                    else
                      L_impl_GoodRoleSet_0_6 n x1 x2 (IntKind.wrap .i64 (x3 + 1)) x9
          else
            bif x4 then
              some false
            else
              some false
        else
          L_impl_GoodRoleSet_0_2_1002_1005_8024 n x1 x2 x3 x4 x5 x6 x7 (IntKind.wrap .i64 (x8 + 1)) x9 x10
      else none
    else
      bif x5 then
        bif x4 then
          some false
        else
          bif decide ((20 : Int) < (x10.2.2.length : Int)) then
            some false
          else
            Option.bind (P_impl_yrising x10.2.2) fun (y6 : Bool) =>
            bif !(y6) then
              some false
            else
              Option.bind (P_impl_yallNames x10.2.2) fun (y7 : Bool) =>
              bif !(y7) then
                some false
              else
                L_impl_GoodRoleSet_0_6 n x1 x2 (IntKind.wrap .i64 (x3 + 1)) x9
      else
        bif x4 then
          some false
        else
          some false := by kernel_rfl
theorem L_impl_GoodRoleSet_0_12_eq (n : Nat) (x1 : (List DRole)) (x2 : Int) (x3 : Int) (x4 : DRoleSet) : L_impl_GoodRoleSet_0_12 (n + 1) x1 x2 x3 x4 =
    bif decide (x3 < x2) then
      bif inB x3 x1.length then
        Option.bind (E_impl_RoleSet_yjuniors x4 (((rd x1 x3 (Ty.dflt TyRole)).2).1)) fun (y9 : (List ((List Int) × Bool))) =>
        bif getM .str y9 ((rd x1 x3 (Ty.dflt TyRole)).1) false then
          some false
        else
          L_impl_GoodRoleSet_0_12 n x1 x2 (IntKind.wrap .i64 (x3 + 1)) x4
      else none
    else
      L_impl_GoodRoleSet_0_18 n x4.2.1 (x4.2.1.length : Int) 0 x4 := by kernel_rfl
theorem L_impl_GoodRoleSet_0_18_eq (n : Nat) (x1 : (List DApart)) (x2 : Int) (x3 : Int) (x4 : DRoleSet) : L_impl_GoodRoleSet_0_18 (n + 1) x1 x2 x3 x4 =
    bif decide (x3 < x2) then
      bif inB x3 x1.length then
        Option.bind (P_impl_yrising ((rd x1 x3 (Ty.dflt TyApart)).1)) fun (y10 : Bool) =>
        bif y10 then
          L_impl_GoodRoleSet_0_2_1002_1005_20003 n x1 x2 x3 true ((rd x1 x3 (Ty.dflt TyApart)).1) (((rd x1 x3 (Ty.dflt TyApart)).1).length : Int) 0 x4 (rd x1 x3 (Ty.dflt TyApart))
        else
          some false
      else none
    else
      Option.bind (P_impl_yrising x4.2.2) fun (y12 : Bool) =>
      bif y12 then
        L_impl_GoodRoleSet_0_2_1002_1005_23003 n true x4.2.2 (x4.2.2.length : Int) 0 x4
      else
        some false := by kernel_rfl
theorem L_impl_GoodRoleSet_0_2_1002_1005_20003_eq (n : Nat) (x1 : (List DApart)) (x2 : Int) (x3 : Int) (x4 : Bool) (x5 : (List (List Int))) (x6 : Int) (x7 : Int) (x8 : DRoleSet) (x9 : DApart) : L_impl_GoodRoleSet_0_2_1002_1005_20003 (n + 1) x1 x2 x3 x4 x5 x6 x7 x8 x9 =
    bif decide (x7 < x6) then
      bif inB x7 x5.length then
        Option.bind (P_impl_RoleSet_yrole x8 (rd x5 x7 (Ty.dflt .str))) fun (y11 : (DRole × Bool)) =>
        bif !(y11.2) then
          bif x4 then
            bif !(!decide ((0 : Int) ≤ x7)) then
              some false
            else
              bif decide ((x9.1.length : Int) < 2) then
                some false
              else
                bif decide (x9.2.1 < 1) then
                  some false
                else
                  bif decide (IntKind.wrap .i64 ((x9.1.length : Int) - 1) < x9.2.1) then
                    some false
                  else
                    L_impl_GoodRoleSet_0_18 n x1 x2 (IntKind.wrap .i64 (x3 + 1)) x8
          else
            some false
        else
          L_impl_GoodRoleSet_0_2_1002_1005_20003 n x1 x2 x3 x4 x5 x6 (IntKind.wrap .i64 (x7 + 1)) x8 x9
      else none
    else
      bif x4 then
        bif decide ((x9.1.length : Int) < 2) then
          some false
        else
          bif decide (x9.2.1 < 1) then
            some false
          else
            bif decide (IntKind.wrap .i64 ((x9.1.length : Int) - 1) < x9.2.1) then
              some false
            else
              L_impl_GoodRoleSet_0_18 n x1 x2 (IntKind.wrap .i64 (x3 + 1)) x8
      else
        some false := by kernel_rfl
theorem L_impl_GoodRoleSet_0_2_1002_1005_23003_eq (n : Nat) (x1 : Bool) (x2 : (List (List Int))) (x3 : Int) (x4 : Int) (x5 : DRoleSet) : L_impl_GoodRoleSet_0_2_1002_1005_23003 (n + 1) x1 x2 x3 x4 x5 =
    bif decide (x4 < x3) then
      bif inB x4 x2.length then
        Option.bind (P_impl_RoleSet_yrole x5 (rd x2 x4 (Ty.dflt .str))) fun (y13 : (DRole × Bool)) =>
        bif !(y13.2) then
          bif x1 then
            some (!decide ((0 : Int) ≤ x4))
          else
            some false
        else
          L_impl_GoodRoleSet_0_2_1002_1005_23003 n x1 x2 x3 (IntKind.wrap .i64 (x4 + 1)) x5
      else none
    else
      bif x1 then
        some true
      else
        some false := by kernel_rfl
theorem S_impl_GoodRoleSet_0_2_1002_1005_8024 {K0 : Option Bool} {x1 : (List DRole)} {x2 : Int} {x3 : Int} {x6 : (List (List Int))} {x9 : DRoleSet} {x10 : DRole} (hl : x6.length ≤ maxLen) (hK0 : ∀  (r : Bool), K0 = some r → Ev (fun n => L_impl_GoodRoleSet_0_6 n x1 x2 (IntKind.wrap .i64 (x3 + 1)) x9) r) : ∀ (rest : List (List Int)) (k : Nat) (r : Bool), rest = x6.drop k → P_impl_GoodRoleSet_0_2_1002_1005_8024 K0 x9 x10 rest k = some r → Ev (fun n => L_impl_GoodRoleSet_0_2_1002_1005_8024 n x1 x2 x3 false true x6 (x6.length : Int) (k : Int) x9 x10) r := by
  intro rest
  induction rest with
  | nil =>
    intro k r hr h
    have hk := drop_nil hr
    rw [P_impl_GoodRoleSet_0_2_1002_1005_8024] at h
    refine Ev.step ?_ (fun n => L_impl_GoodRoleSet_0_2_1002_1005_8024_eq n x1 x2 x3 false true x6 (x6.length : Int) (k : Int) x9 x10)
    rw [show decide ((k : Int) < (x6.length : Int)) = false from decide_eq_false (by omega)]
    exact Ev.neg rfl (Ev.pos rfl (Ev.ofBif h (fun h => (Ev.ofSome h)) (fun h => (Ev.ofBif h (fun h => (Ev.ofSome h)) (fun h => (Ev.ofBind h fun y6 h => (Ev.ofBif h (fun h => (Ev.ofSome h)) (fun h => (Ev.ofBind h fun y7 h => (Ev.ofBif h (fun h => (Ev.ofSome h)) (fun h => (hK0  _ h))))))))))))
  | cons e rest ih =>
    intro k r hr h
    obtain ⟨hk, hx, hr2⟩ := drop_cons (d := (Ty.dflt .str)) hr
    have hw := wrap_succ hl hk
    have ih2 : ∀ (r : Bool), P_impl_GoodRoleSet_0_2_1002_1005_8024 K0 x9 x10 rest (k + 1) = some r → Ev (fun n => L_impl_GoodRoleSet_0_2_1002_1005_8024 n x1 x2 x3 false true x6 (x6.length : Int) (IntKind.wrap .i64 ((k : Int) + 1)) x9 x10) r := by
      intro r h; rw [hw]; exact ih (k + 1) r hr2 h
    rw [P_impl_GoodRoleSet_0_2_1002_1005_8024] at h
    refine Ev.step ?_ (fun n => L_impl_GoodRoleSet_0_2_1002_1005_8024_eq n x1 x2 x3 false true x6 (x6.length : Int) (k : Int) x9 x10)
    rw [show decide ((k : Int) < (x6.length : Int)) = true from decide_eq_true (by omega), inB_nat2 hk, hx]
    exact Ev.pos rfl (Ev.pos rfl (Ev.ofBind h fun y3 h => (Ev.ofBif h (fun h => (Ev.pos rfl (Ev.ofBif h (fun h => (Ev.ofSome h)) (fun h => (Ev.ofBif h (fun h => (Ev.ofSome h)) (fun h => (Ev.ofBif h (fun h => (Ev.ofSome h)) (fun h => (Ev.ofBind h fun y4 h => (Ev.ofBif h (fun h => (Ev.ofSome h)) (fun h => (Ev.ofBind h fun y5 h => (Ev.ofBif h (fun h => (Ev.ofSome h)) (fun h => (hK0  _ h))))))))))))))) (fun h => (ih2  _ h)))))
theorem S_impl_GoodRoleSet_0_2_1002_1005_20003 {K3 : Option Bool} {x1 : (List DApart)} {x2 : Int} {x3 : Int} {x5 : (List (List Int))} {x8 : DRoleSet} {x9 : DApart} (hl : x5.length ≤ maxLen) (hK3 : ∀  (r : Bool), K3 = some r → Ev (fun n => L_impl_GoodRoleSet_0_18 n x1 x2 (IntKind.wrap .i64 (x3 + 1)) x8) r) : ∀ (rest : List (List Int)) (k : Nat) (r : Bool), rest = x5.drop k → P_impl_GoodRoleSet_0_2_1002_1005_20003 K3 x8 x9 rest k = some r → Ev (fun n => L_impl_GoodRoleSet_0_2_1002_1005_20003 n x1 x2 x3 true x5 (x5.length : Int) (k : Int) x8 x9) r := by
  intro rest
  induction rest with
  | nil =>
    intro k r hr h
    have hk := drop_nil hr
    rw [P_impl_GoodRoleSet_0_2_1002_1005_20003] at h
    refine Ev.step ?_ (fun n => L_impl_GoodRoleSet_0_2_1002_1005_20003_eq n x1 x2 x3 true x5 (x5.length : Int) (k : Int) x8 x9)
    rw [show decide ((k : Int) < (x5.length : Int)) = false from decide_eq_false (by omega)]
    exact Ev.neg rfl (Ev.pos rfl (Ev.ofBif h (fun h => (Ev.ofSome h)) (fun h => (Ev.ofBif h (fun h => (Ev.ofSome h)) (fun h => (Ev.ofBif h (fun h => (Ev.ofSome h)) (fun h => (hK3  _ h))))))))
  | cons e rest ih =>
    intro k r hr h
    obtain ⟨hk, hx, hr2⟩ := drop_cons (d := (Ty.dflt .str)) hr
    have hw := wrap_succ hl hk
    have ih2 : ∀ (r : Bool), P_impl_GoodRoleSet_0_2_1002_1005_20003 K3 x8 x9 rest (k + 1) = some r → Ev (fun n => L_impl_GoodRoleSet_0_2_1002_1005_20003 n x1 x2 x3 true x5 (x5.length : Int) (IntKind.wrap .i64 ((k : Int) + 1)) x8 x9) r := by
      intro r h; rw [hw]; exact ih (k + 1) r hr2 h
    rw [P_impl_GoodRoleSet_0_2_1002_1005_20003] at h
    refine Ev.step ?_ (fun n => L_impl_GoodRoleSet_0_2_1002_1005_20003_eq n x1 x2 x3 true x5 (x5.length : Int) (k : Int) x8 x9)
    rw [show decide ((k : Int) < (x5.length : Int)) = true from decide_eq_true (by omega), inB_nat2 hk, hx]
    exact Ev.pos rfl (Ev.pos rfl (Ev.ofBind h fun y11 h => (Ev.ofBif h (fun h => (Ev.pos rfl (Ev.ofBif h (fun h => (Ev.ofSome h)) (fun h => (Ev.ofBif h (fun h => (Ev.ofSome h)) (fun h => (Ev.ofBif h (fun h => (Ev.ofSome h)) (fun h => (Ev.ofBif h (fun h => (Ev.ofSome h)) (fun h => (hK3  _ h))))))))))) (fun h => (ih2  _ h)))))
theorem S_impl_GoodRoleSet_0_2_1002_1005_23003 {x2 : (List (List Int))} {x5 : DRoleSet} (hl : x2.length ≤ maxLen) : ∀ (rest : List (List Int)) (k : Nat) (r : Bool), rest = x2.drop k → P_impl_GoodRoleSet_0_2_1002_1005_23003 x5 rest k = some r → Ev (fun n => L_impl_GoodRoleSet_0_2_1002_1005_23003 n true x2 (x2.length : Int) (k : Int) x5) r := by
  intro rest
  induction rest with
  | nil =>
    intro k r hr h
    have hk := drop_nil hr
    rw [P_impl_GoodRoleSet_0_2_1002_1005_23003] at h
    refine Ev.step ?_ (fun n => L_impl_GoodRoleSet_0_2_1002_1005_23003_eq n true x2 (x2.length : Int) (k : Int) x5)
    rw [show decide ((k : Int) < (x2.length : Int)) = false from decide_eq_false (by omega)]
    exact Ev.neg rfl (Ev.pos rfl (Ev.ofSome h))
  | cons e rest ih =>
    intro k r hr h
    obtain ⟨hk, hx, hr2⟩ := drop_cons (d := (Ty.dflt .str)) hr
    have hw := wrap_succ hl hk
    have ih2 : ∀ (r : Bool), P_impl_GoodRoleSet_0_2_1002_1005_23003 x5 rest (k + 1) = some r → Ev (fun n => L_impl_GoodRoleSet_0_2_1002_1005_23003 n true x2 (x2.length : Int) (IntKind.wrap .i64 ((k : Int) + 1)) x5) r := by
      intro r h; rw [hw]; exact ih (k + 1) r hr2 h
    rw [P_impl_GoodRoleSet_0_2_1002_1005_23003] at h
    refine Ev.step ?_ (fun n => L_impl_GoodRoleSet_0_2_1002_1005_23003_eq n true x2 (x2.length : Int) (k : Int) x5)
    rw [show decide ((k : Int) < (x2.length : Int)) = true from decide_eq_true (by omega), inB_nat2 hk, hx]
    exact Ev.pos rfl (Ev.pos rfl (Ev.ofBind h fun y13 h => (Ev.ofBif h (fun h => (Ev.pos rfl (Ev.ofSome h))) (fun h => (ih2  _ h)))))
theorem S_impl_GoodRoleSet_0_18 {x1 : (List DApart)} {x4 : DRoleSet} (hl : x1.length ≤ maxLen) : ∀ (rest : List DApart) (k : Nat) (r : Bool), rest = x1.drop k → P_impl_GoodRoleSet_0_18 x4 rest = some r → Ev (fun n => L_impl_GoodRoleSet_0_18 n x1 (x1.length : Int) (k : Int) x4) r := by
  intro rest
  induction rest with
  | nil =>
    intro k r hr h
    have hk := drop_nil hr
    rw [P_impl_GoodRoleSet_0_18] at h
    refine Ev.step ?_ (fun n => L_impl_GoodRoleSet_0_18_eq n x1 (x1.length : Int) (k : Int) x4)
    rw [show decide ((k : Int) < (x1.length : Int)) = false from decide_eq_false (by omega)]
    exact Ev.neg rfl (Ev.ofBind h fun y12 h => (Ev.ofBif h (fun h => (Ev.ofLen h fun hl h => S_impl_GoodRoleSet_0_2_1002_1005_23003 hl _ (0 : Nat) _ rfl h)) (fun h => (Ev.ofSome h))))
  | cons e rest ih =>
    intro k r hr h
    obtain ⟨hk, hx, hr2⟩ := drop_cons (d := (Ty.dflt TyApart)) hr
    have hw := wrap_succ hl hk
    have ih2 : ∀ (r : Bool), P_impl_GoodRoleSet_0_18 x4 rest = some r → Ev (fun n => L_impl_GoodRoleSet_0_18 n x1 (x1.length : Int) (IntKind.wrap .i64 ((k : Int) + 1)) x4) r := by
      intro r h; rw [hw]; exact ih (k + 1) r hr2 h
    rw [P_impl_GoodRoleSet_0_18] at h
    refine Ev.step ?_ (fun n => L_impl_GoodRoleSet_0_18_eq n x1 (x1.length : Int) (k : Int) x4)
    rw [show decide ((k : Int) < (x1.length : Int)) = true from decide_eq_true (by omega), inB_nat2 hk, hx]
    exact Ev.pos rfl (Ev.pos rfl (Ev.ofBind h fun y10 h => (Ev.ofBif h (fun h => (Ev.ofLen h fun hl h => S_impl_GoodRoleSet_0_2_1002_1005_20003 hl ih2 _ (0 : Nat) _ rfl h)) (fun h => (Ev.ofSome h)))))
theorem S_impl_GoodRoleSet_0_12 {x1 : (List DRole)} {x4 : DRoleSet} (hl : x1.length ≤ maxLen) : ∀ (rest : List DRole) (k : Nat) (r : Bool), rest = x1.drop k → P_impl_GoodRoleSet_0_12 x4 rest = some r → Ev (fun n => L_impl_GoodRoleSet_0_12 n x1 (x1.length : Int) (k : Int) x4) r := by
  intro rest
  induction rest with
  | nil =>
    intro k r hr h
    have hk := drop_nil hr
    rw [P_impl_GoodRoleSet_0_12] at h
    refine Ev.step ?_ (fun n => L_impl_GoodRoleSet_0_12_eq n x1 (x1.length : Int) (k : Int) x4)
    rw [show decide ((k : Int) < (x1.length : Int)) = false from decide_eq_false (by omega)]
    exact Ev.neg rfl (Ev.ofLen h fun hl h => S_impl_GoodRoleSet_0_18 hl _ (0 : Nat) _ rfl h)
  | cons e rest ih =>
    intro k r hr h
    obtain ⟨hk, hx, hr2⟩ := drop_cons (d := (Ty.dflt TyRole)) hr
    have hw := wrap_succ hl hk
    have ih2 : ∀ (r : Bool), P_impl_GoodRoleSet_0_12 x4 rest = some r → Ev (fun n => L_impl_GoodRoleSet_0_12 n x1 (x1.length : Int) (IntKind.wrap .i64 ((k : Int) + 1)) x4) r := by
      intro r h; rw [hw]; exact ih (k + 1) r hr2 h
    rw [P_impl_GoodRoleSet_0_12] at h
    refine Ev.step ?_ (fun n => L_impl_GoodRoleSet_0_12_eq n x1 (x1.length : Int) (k : Int) x4)
    rw [show decide ((k : Int) < (x1.length : Int)) = true from decide_eq_true (by omega), inB_nat2 hk, hx]
    exact Ev.pos rfl (Ev.pos rfl (Ev.ofBind h fun y9 h => (Ev.ofBif h (fun h => (Ev.ofSome h)) (fun h => (ih2  _ h)))))
theorem S_impl_GoodRoleSet_0_6 {x1 : (List DRole)} {x4 : DRoleSet} (hl : x1.length ≤ maxLen) : ∀ (rest : List DRole) (k : Nat) (r : Bool), rest = x1.drop k → P_impl_GoodRoleSet_0_6 x4 rest k = some r → Ev (fun n => L_impl_GoodRoleSet_0_6 n x1 (x1.length : Int) (k : Int) x4) r := by
  intro rest
  induction rest with
  | nil =>
    intro k r hr h
    have hk := drop_nil hr
    rw [P_impl_GoodRoleSet_0_6] at h
    refine Ev.step ?_ (fun n => L_impl_GoodRoleSet_0_6_eq n x1 (x1.length : Int) (k : Int) x4)
    rw [show decide ((k : Int) < (x1.length : Int)) = false from decide_eq_false (by omega)]
    exact Ev.neg rfl (Ev.ofLen h fun hl h => S_impl_GoodRoleSet_0_12 hl _ (0 : Nat) _ rfl h)
  | cons e rest ih =>
    intro k r hr h
    obtain ⟨hk, hx, hr2⟩ := drop_cons (d := (Ty.dflt TyRole)) hr
    have hw := wrap_succ hl hk
    have ih2 : ∀ (r : Bool), P_impl_GoodRoleSet_0_6 x4 rest (k + 1) = some r → Ev (fun n => L_impl_GoodRoleSet_0_6 n x1 (x1.length : Int) (IntKind.wrap .i64 ((k : Int) + 1)) x4) r := by
      intro r h; rw [hw]; exact ih (k + 1) r hr2 h
    rw [P_impl_GoodRoleSet_0_6] at h
    refine Ev.step ?_ (fun n => L_impl_GoodRoleSet_0_6_eq n x1 (x1.length : Int) (k : Int) x4)
    rw [show decide ((k : Int) < (x1.length : Int)) = true from decide_eq_true (by omega), inB_nat2 hk, hx]
    exact Ev.pos rfl (Ev.pos rfl (Ev.ofBind h fun y1 h => (Ev.ofBif h (fun h => (Ev.ofSome h)) (fun h => (Ev.ofBif h (fun h => (Ev.ofBif h (fun h => (Ev.ofBif h (fun h => (Ev.ofSome h)) (fun h => (Ev.ofBind h fun y2 h => (Ev.ofBif h (fun h => (Ev.ofLen h fun hl h => S_impl_GoodRoleSet_0_2_1002_1005_8024 hl ih2 _ (0 : Nat) _ rfl h)) (fun h => (Ev.ofSome h))))))) (fun h => (Ev.ofNone h)))) (fun h => (Ev.ofBind h fun y8 h => (Ev.ofBif h (fun h => (Ev.ofLen h fun hl h => S_impl_GoodRoleSet_0_2_1002_1005_8024 hl ih2 _ (0 : Nat) _ rfl h)) (fun h => (Ev.ofSome h))))))))))
theorem S_impl_GoodRoleSet (a0 : DRoleSet) {r : Bool} (h : P_impl_GoodRoleSet a0 = some r) : Ev (fun n => F_impl_GoodRoleSet n a0) r := by
  rw [P_impl_GoodRoleSet] at h
  refine Ev.of_eq ?_ (fun n => F_impl_GoodRoleSet_eq n a0)
  exact (Ev.ofBif h (fun h => (Ev.ofSome h)) (fun h => (Ev.ofBif h (fun h => (Ev.ofSome h)) (fun h => (Ev.ofLen h fun hl h => S_impl_GoodRoleSet_0_6 hl _ (0 : Nat) _ rfl h)))))
theorem hcs_impl_GoodRoleSet : ∀ x ∈ cs_impl_GoodRoleSet, CtrOk Try.prog x := (conOf_cons ok_impl_GoodName (conOf_cons ok_impl_yrising (conOf_cons ok_impl_RoleSet_yrole (conOf_cons ok_impl_yallNames (conOf_cons ok_impl_RoleSet_yjuniors conOf_nil)))))
theorem ok_impl_GoodRoleSet : CtrOk Try.prog (c_impl_GoodRoleSet) := by
  refine ctr_of_run (c := c_impl_GoodRoleSet) (by kernel_rfl) (by kernel_rfl : Try.prog.funcs[71]? = some Try.f71) (code := Try.f71.body.getD .skip) (by kernel_rfl) (by kernel_rfl) (by kernel_rfl) (A := A_impl_GoodRoleSet) (I := In_impl_GoodRoleSet) (hcs_impl_GoodRoleSet) ?_
  rintro ⟨a0, u⟩ y hy
  exact (S_impl_GoodRoleSet a0 hy).get

/-! ## impl.ysorted (72) -/
noncomputable def co_impl_ysorted : Ctr := ownOf 72 [(.map .str .bool)] .str fun x => keysF (v := .bool) x.1
theorem oko_impl_ysorted : CtrOk Try.prog co_impl_ysorted := keys_own (v := .bool) (by kernel_rfl) (by kernel_rfl : Try.prog.funcs[72]? = some Try.f72) (c := Try.f72.body.getD .skip) (by kernel_rfl) (by kernel_rfl) (gs := 127) (ts := 42) ⟨by kernel_rfl, Try.sort_string, Try.sort_string_none⟩ (by kernel_rfl)
noncomputable def c_impl_ysorted : Ctr := ⟨72, [(.map .str .bool)], [(.list .str)], fun x => keysF (v := .bool) x.1⟩
theorem ok_impl_ysorted : CtrOk Try.prog c_impl_ysorted := plain_of_own (by kernel_rfl) oko_impl_ysorted

/-! ## impl.JuniorsOf (24) -/
noncomputable def P_impl_JuniorsOf (a0 : DRoleSet) (a1 : (List Int)) : Option (List (List Int)) :=
  Option.bind (P_impl_GoodRoleSet a0) fun (y1 : Bool) =>
  bif !(y1) then
    some ([])
  else
    Option.bind (E_impl_RoleSet_yjuniors a0 ([a1] : List (List Int))) fun (y2 : (List ((List Int) × Bool))) =>
    Option.bind (keysF (v := .bool) y2) fun (y3 : (List (List Int))) =>
    some y3
noncomputable def c_impl_JuniorsOf : Ctr := ⟨24, [TyRoleSet, .str], [(.list .str)], fun x => P_impl_JuniorsOf x.1 x.2.1⟩
def A_impl_JuniorsOf : List (List Nat × Ann) := []
def In_impl_JuniorsOf : List (List Nat × Nat) := []
noncomputable def cs_impl_JuniorsOf : List Ctr := [c_impl_GoodRoleSet, c_impl_RoleSet_yjuniors, c_impl_ysorted]
noncomputable def F_impl_JuniorsOf (n : Nat) (a0 : DRoleSet) (a1 : (List Int)) : Option (List (List Int)) := run Try.prog A_impl_JuniorsOf In_impl_JuniorsOf (conOf cs_impl_JuniorsOf) Try.f24 (Try.f24.body.getD .skip) (packT [(.list .str)]) n (argsV [TyRoleSet, .str] (a0, a1, ()))
theorem F_impl_JuniorsOf_eq (n : Nat) (a0 : DRoleSet) (a1 : (List Int)) : F_impl_JuniorsOf n a0 a1 =
    Option.bind (P_impl_GoodRoleSet a0) fun (y1 : Bool) =>
    bif !(y1) then
      some ([])
    else
      Option.bind (E_impl_RoleSet_yjuniors a0 ([a1] : List (List Int))) fun (y2 : (List ((List Int) × Bool))) =>
      Option.bind (keysF (v := .bool) y2) fun (y3 : (List (List Int))) =>
      some y3 := by kernel_rfl
theorem S_impl_JuniorsOf (a0 : DRoleSet) (a1 : (List Int)) {r : (List (List Int))} (h : P_impl_JuniorsOf a0 a1 = some r) : Ev (fun n => F_impl_JuniorsOf n a0 a1) r := by
  rw [P_impl_JuniorsOf] at h
  refine Ev.of_eq ?_ (fun n => F_impl_JuniorsOf_eq n a0 a1)
  exact (Ev.ofBind h fun y1 h => (Ev.ofBif h (fun h => (Ev.ofSome h)) (fun h => (Ev.ofBind h fun y2 h => (Ev.ofBind h fun y3 h => (Ev.ofSome h))))))
theorem hcs_impl_JuniorsOf : ∀ x ∈ cs_impl_JuniorsOf, CtrOk Try.prog x := (conOf_cons ok_impl_GoodRoleSet (conOf_cons ok_impl_RoleSet_yjuniors (conOf_cons ok_impl_ysorted conOf_nil)))
theorem ok_impl_JuniorsOf : CtrOk Try.prog (c_impl_JuniorsOf) := by
  refine ctr_of_run (c := c_impl_JuniorsOf) (by kernel_rfl) (by kernel_rfl : Try.prog.funcs[24]? = some Try.f24) (code := Try.f24.body.getD .skip) (by kernel_rfl) (by kernel_rfl) (by kernel_rfl) (A := A_impl_JuniorsOf) (I := In_impl_JuniorsOf) (hcs_impl_JuniorsOf) ?_
  rintro ⟨a0, a1, u⟩ y hy
  exact (S_impl_JuniorsOf a0 a1 hy).get

/-! ## laws.toStringS (54) -/
noncomputable def c_laws_toStringS : Ctr := ⟨54, [(.list .str)], [(.list .str)], fun x => toC (.list .str) x.1⟩
def A_laws_toStringS : List (List Nat × Ann) := [([0, 3], [.keep 0 0, .keep 0 3, .keep 0 4, .rows 0 7 .str])]
def In_laws_toStringS : List (List Nat × Nat) := []
noncomputable def cs_laws_toStringS : List Ctr := []
noncomputable def F_laws_toStringS (n : Nat) (a0 : (List (List Int))) : Option (List (List Int)) := run Try.prog A_laws_toStringS In_laws_toStringS (conOf cs_laws_toStringS) Try.f54 (Try.f54.body.getD .skip) (packT [(.list .str)]) n (argsV [(.list .str)] (a0, ()))
noncomputable abbrev L_laws_toStringS_0_3 (n : Nat) (x1 : (List (List Int))) (x2 : Int) (x3 : (List (List Int))) : Option (List (List Int)) := lam Try.prog A_laws_toStringS In_laws_toStringS (conOf cs_laws_toStringS) Try.f54 (Try.f54.body.getD .skip) (packT [(.list .str)]) n [0, 3] [.d (.list .str) x1, .msl 0 7, .d I64 x2, .d (.list .str) x3]
theorem F_laws_toStringS_eq (n : Nat) (a0 : (List (List Int))) : F_laws_toStringS n a0 =
    bif decide ((a0.length : Int) = (a0.length : Int)) && decide ((0 : Int) ≤ (a0.length : Int)) && decide ((a0.length : Int) * 16 ≤ room) && true then
      L_laws_toStringS_0_3 n a0 0 (List.replicate (Int.toNat (a0.length : Int)) ([] : List Int))
    else none := by kernel_rfl
theorem L_laws_toStringS_0_3_eq (n : Nat) (x1 : (List (List Int))) (x2 : Int) (x3 : (List (List Int))) : L_laws_toStringS_0_3 (n + 1) x1 x2 x3 =
    bif decide (x2 < (x1.length : Int)) then
      bif inB x2 x1.length then
        bif inB x2 x3.length then
          bif inB x2 x3.length && true && true && true && true then
            L_laws_toStringS_0_3 n x1 (IntKind.wrap .i64 (x2 + 1)) (x3.set (Int.toNat x2) (rd x1 x2 (Ty.dflt .str)))
          else none
        else none
      else none
    else
      some x3 := by kernel_rfl
theorem mk_laws_toStringS (hcs : ∀ x ∈ cs_laws_toStringS, CtrOk Try.prog x) (h : ∀ (a0 : (List (List Int))) y, toC (.list .str) a0 = some y → ∃ n, F_laws_toStringS n a0 = some y) : CtrOk Try.prog c_laws_toStringS := by
  refine ctr_of_run (c := c_laws_toStringS) (by kernel_rfl) (by kernel_rfl : Try.prog.funcs[54]? = some Try.f54) (code := Try.f54.body.getD .skip) (by kernel_rfl) (by kernel_rfl) (by kernel_rfl) (A := A_laws_toStringS) (I := In_laws_toStringS) hcs ?_
  rintro ⟨a0, u⟩ y hy
  exact h a0 y hy

theorem hcs_laws_toStringS : ∀ x ∈ cs_laws_toStringS, CtrOk Try.prog x := conOf_nil
theorem ok_laws_toStringS : CtrOk Try.prog c_laws_toStringS := mk_laws_toStringS hcs_laws_toStringS fun a0 y hy => by
  obtain ⟨n, hn⟩ := toS_ok (t := .str) (f := fun x => some x) (fun x _ _ => rfl) (by_ := 16) (by omega) (fun n xs i out => L_laws_toStringS_0_3_eq n xs i out) hy
  exact ⟨n, (F_laws_toStringS_eq n a0).trans hn⟩
/-! ## laws.toRole (105) -/
noncomputable def c_laws_toRole : Ctr := ⟨105, [TyRole], [TyRole], fun x => toC TyRole x.1⟩
def A_laws_toRole : List (List Nat × Ann) := []
def In_laws_toRole : List (List Nat × Nat) := []
noncomputable def cs_laws_toRole : List Ctr := [c_laws_toStringS]
noncomputable def F_laws_toRole (n : Nat) (a0 : DRole) : Option DRole := run Try.prog A_laws_toRole In_laws_toRole (conOf cs_laws_toRole) Try.f105 (Try.f105.body.getD .skip) (packT [TyRole]) n (argsV [TyRole] (a0, ()))
theorem F_laws_toRole_eq (n : Nat) (a0 : DRole) : F_laws_toRole n a0 =
    Option.bind (toC (.list .str) a0.2.1) fun (y1 : (List (List Int))) =>
    Option.bind (toC (.list .str) a0.2.2) fun (y2 : (List (List Int))) =>
    some (a0.1, y1, y2) := by kernel_rfl
theorem mk_laws_toRole (hcs : ∀ x ∈ cs_laws_toRole, CtrOk Try.prog x) (h : ∀ (a0 : DRole) y, toC TyRole a0 = some y → ∃ n, F_laws_toRole n a0 = some y) : CtrOk Try.prog c_laws_toRole := by
  refine ctr_of_run (c := c_laws_toRole) (by kernel_rfl) (by kernel_rfl : Try.prog.funcs[105]? = some Try.f105) (code := Try.f105.body.getD .skip) (by kernel_rfl) (by kernel_rfl) (by kernel_rfl) (A := A_laws_toRole) (I := In_laws_toRole) hcs ?_
  rintro ⟨a0, u⟩ y hy
  exact h a0 y hy

theorem hcs_laws_toRole : ∀ x ∈ cs_laws_toRole, CtrOk Try.prog x := (conOf_cons ok_laws_toStringS conOf_nil)
theorem ok_laws_toRole : CtrOk Try.prog c_laws_toRole := mk_laws_toRole hcs_laws_toRole fun a0 y hy => by
  obtain ⟨hw, hs, rfl⟩ := toC_inv hy
  have hw2 : wfD .str y.1 ∧ wfD (.list .str) y.2.1 ∧ wfD (.list .str) y.2.2 := hw
  have hs2 : Ty.size .str y.1 + (Ty.size (.list .str) y.2.1 + (Ty.size (.list .str) y.2.2)) ≤ 1073741824 := hs
  refine ⟨0, ?_⟩
  rw [F_laws_toRole_eq]
  try (rw [toC_some hw2.2.1 (by omega)]; simp only [Option.bind_some])
  try (rw [toC_some hw2.2.2 (by omega)]; simp only [Option.bind_some])
  try rfl
/-! ## laws.toRoleS (52) -/
noncomputable def c_laws_toRoleS : Ctr := ⟨52, [(.list TyRole)], [(.list TyRole)], fun x => toC (.list TyRole) x.1⟩
def A_laws_toRoleS : List (List Nat × Ann) := [([0, 3], [.keep 0 0, .keep 0 3, .keep 0 4, .rows 0 7 TyRole])]
def In_laws_toRoleS : List (List Nat × Nat) := []
noncomputable def cs_laws_toRoleS : List Ctr := [c_laws_toRole]
noncomputable def F_laws_toRoleS (n : Nat) (a0 : (List DRole)) : Option (List DRole) := run Try.prog A_laws_toRoleS In_laws_toRoleS (conOf cs_laws_toRoleS) Try.f52 (Try.f52.body.getD .skip) (packT [(.list TyRole)]) n (argsV [(.list TyRole)] (a0, ()))
noncomputable abbrev L_laws_toRoleS_0_3 (n : Nat) (x1 : (List DRole)) (x2 : Int) (x3 : (List DRole)) : Option (List DRole) := lam Try.prog A_laws_toRoleS In_laws_toRoleS (conOf cs_laws_toRoleS) Try.f52 (Try.f52.body.getD .skip) (packT [(.list TyRole)]) n [0, 3] [.d (.list TyRole) x1, .msl 0 7, .d I64 x2, .d (.list TyRole) x3]
theorem F_laws_toRoleS_eq (n : Nat) (a0 : (List DRole)) : F_laws_toRoleS n a0 =
    bif decide ((a0.length : Int) = (a0.length : Int)) && decide ((0 : Int) ≤ (a0.length : Int)) && decide ((a0.length : Int) * 64 ≤ room) && true then
      L_laws_toRoleS_0_3 n a0 0 (List.replicate (Int.toNat (a0.length : Int)) (([] : List Int), [], []))
    else none := by kernel_rfl
theorem L_laws_toRoleS_0_3_eq (n : Nat) (x1 : (List DRole)) (x2 : Int) (x3 : (List DRole)) : L_laws_toRoleS_0_3 (n + 1) x1 x2 x3 =
    bif decide (x2 < (x1.length : Int)) then
      bif inB x2 x1.length then
        Option.bind (toC TyRole (rd x1 x2 (Ty.dflt TyRole))) fun (y1 : DRole) =>
        bif inB x2 x3.length then
          bif inB x2 x3.length && true && true && true && true then
            L_laws_toRoleS_0_3 n x1 (IntKind.wrap .i64 (x2 + 1)) (x3.set (Int.toNat x2) y1)
          else none
        else none
      else none
    else
      some x3 := by kernel_rfl
theorem mk_laws_toRoleS (hcs : ∀ x ∈ cs_laws_toRoleS, CtrOk Try.prog x) (h : ∀ (a0 : (List DRole)) y, toC (.list TyRole) a0 = some y → ∃ n, F_laws_toRoleS n a0 = some y) : CtrOk Try.prog c_laws_toRoleS := by
  refine ctr_of_run (c := c_laws_toRoleS) (by kernel_rfl) (by kernel_rfl : Try.prog.funcs[52]? = some Try.f52) (code := Try.f52.body.getD .skip) (by kernel_rfl) (by kernel_rfl) (by kernel_rfl) (A := A_laws_toRoleS) (I := In_laws_toRoleS) hcs ?_
  rintro ⟨a0, u⟩ y hy
  exact h a0 y hy

theorem hcs_laws_toRoleS : ∀ x ∈ cs_laws_toRoleS, CtrOk Try.prog x := (conOf_cons ok_laws_toRole conOf_nil)
theorem ok_laws_toRoleS : CtrOk Try.prog c_laws_toRoleS := mk_laws_toRoleS hcs_laws_toRoleS fun a0 y hy => by
  obtain ⟨n, hn⟩ := toS_ok (t := TyRole) (f := toC TyRole) (fun x h h2 => toC_some h h2) (by_ := 64) (by omega) (fun n xs i out => L_laws_toRoleS_0_3_eq n xs i out) hy
  exact ⟨n, (F_laws_toRoleS_eq n a0).trans hn⟩
/-! ## laws.toApart (106) -/
noncomputable def c_laws_toApart : Ctr := ⟨106, [TyApart], [TyApart], fun x => toC TyApart x.1⟩
def A_laws_toApart : List (List Nat × Ann) := []
def In_laws_toApart : List (List Nat × Nat) := []
noncomputable def cs_laws_toApart : List Ctr := [c_laws_toStringS]
noncomputable def F_laws_toApart (n : Nat) (a0 : DApart) : Option DApart := run Try.prog A_laws_toApart In_laws_toApart (conOf cs_laws_toApart) Try.f106 (Try.f106.body.getD .skip) (packT [TyApart]) n (argsV [TyApart] (a0, ()))
theorem F_laws_toApart_eq (n : Nat) (a0 : DApart) : F_laws_toApart n a0 =
    Option.bind (toC (.list .str) a0.1) fun (y1 : (List (List Int))) =>
    some (y1, a0.2) := by kernel_rfl
theorem mk_laws_toApart (hcs : ∀ x ∈ cs_laws_toApart, CtrOk Try.prog x) (h : ∀ (a0 : DApart) y, toC TyApart a0 = some y → ∃ n, F_laws_toApart n a0 = some y) : CtrOk Try.prog c_laws_toApart := by
  refine ctr_of_run (c := c_laws_toApart) (by kernel_rfl) (by kernel_rfl : Try.prog.funcs[106]? = some Try.f106) (code := Try.f106.body.getD .skip) (by kernel_rfl) (by kernel_rfl) (by kernel_rfl) (A := A_laws_toApart) (I := In_laws_toApart) hcs ?_
  rintro ⟨a0, u⟩ y hy
  exact h a0 y hy

theorem hcs_laws_toApart : ∀ x ∈ cs_laws_toApart, CtrOk Try.prog x := (conOf_cons ok_laws_toStringS conOf_nil)
theorem ok_laws_toApart : CtrOk Try.prog c_laws_toApart := mk_laws_toApart hcs_laws_toApart fun a0 y hy => by
  obtain ⟨hw, hs, rfl⟩ := toC_inv hy
  have hw2 : wfD (.list .str) y.1 ∧ wfD I64 y.2.1 ∧ wfD .bool y.2.2 := hw
  have hs2 : Ty.size (.list .str) y.1 + (Ty.size I64 y.2.1 + (Ty.size .bool y.2.2)) ≤ 1073741824 := hs
  refine ⟨0, ?_⟩
  rw [F_laws_toApart_eq]
  try (rw [toC_some hw2.1 (by omega)]; simp only [Option.bind_some])
  try rfl
/-! ## laws.toApartS (53) -/
noncomputable def c_laws_toApartS : Ctr := ⟨53, [(.list TyApart)], [(.list TyApart)], fun x => toC (.list TyApart) x.1⟩
def A_laws_toApartS : List (List Nat × Ann) := [([0, 3], [.keep 0 0, .keep 0 3, .keep 0 4, .rows 0 7 TyApart])]
def In_laws_toApartS : List (List Nat × Nat) := []
noncomputable def cs_laws_toApartS : List Ctr := [c_laws_toApart]
noncomputable def F_laws_toApartS (n : Nat) (a0 : (List DApart)) : Option (List DApart) := run Try.prog A_laws_toApartS In_laws_toApartS (conOf cs_laws_toApartS) Try.f53 (Try.f53.body.getD .skip) (packT [(.list TyApart)]) n (argsV [(.list TyApart)] (a0, ()))
noncomputable abbrev L_laws_toApartS_0_3 (n : Nat) (x1 : (List DApart)) (x2 : Int) (x3 : (List DApart)) : Option (List DApart) := lam Try.prog A_laws_toApartS In_laws_toApartS (conOf cs_laws_toApartS) Try.f53 (Try.f53.body.getD .skip) (packT [(.list TyApart)]) n [0, 3] [.d (.list TyApart) x1, .msl 0 7, .d I64 x2, .d (.list TyApart) x3]
theorem F_laws_toApartS_eq (n : Nat) (a0 : (List DApart)) : F_laws_toApartS n a0 =
    bif decide ((a0.length : Int) = (a0.length : Int)) && decide ((0 : Int) ≤ (a0.length : Int)) && decide ((a0.length : Int) * 40 ≤ room) && true then
      L_laws_toApartS_0_3 n a0 0 (List.replicate (Int.toNat (a0.length : Int)) ([], 0, false))
    else none := by kernel_rfl
theorem L_laws_toApartS_0_3_eq (n : Nat) (x1 : (List DApart)) (x2 : Int) (x3 : (List DApart)) : L_laws_toApartS_0_3 (n + 1) x1 x2 x3 =
    bif decide (x2 < (x1.length : Int)) then
      bif inB x2 x1.length then
        Option.bind (toC TyApart (rd x1 x2 (Ty.dflt TyApart))) fun (y1 : DApart) =>
        bif inB x2 x3.length then
          bif inB x2 x3.length && true && true && true && true then
            L_laws_toApartS_0_3 n x1 (IntKind.wrap .i64 (x2 + 1)) (x3.set (Int.toNat x2) y1)
          else none
        else none
      else none
    else
      some x3 := by kernel_rfl
theorem mk_laws_toApartS (hcs : ∀ x ∈ cs_laws_toApartS, CtrOk Try.prog x) (h : ∀ (a0 : (List DApart)) y, toC (.list TyApart) a0 = some y → ∃ n, F_laws_toApartS n a0 = some y) : CtrOk Try.prog c_laws_toApartS := by
  refine ctr_of_run (c := c_laws_toApartS) (by kernel_rfl) (by kernel_rfl : Try.prog.funcs[53]? = some Try.f53) (code := Try.f53.body.getD .skip) (by kernel_rfl) (by kernel_rfl) (by kernel_rfl) (A := A_laws_toApartS) (I := In_laws_toApartS) hcs ?_
  rintro ⟨a0, u⟩ y hy
  exact h a0 y hy

theorem hcs_laws_toApartS : ∀ x ∈ cs_laws_toApartS, CtrOk Try.prog x := (conOf_cons ok_laws_toApart conOf_nil)
theorem ok_laws_toApartS : CtrOk Try.prog c_laws_toApartS := mk_laws_toApartS hcs_laws_toApartS fun a0 y hy => by
  obtain ⟨n, hn⟩ := toS_ok (t := TyApart) (f := toC TyApart) (fun x h h2 => toC_some h h2) (by_ := 40) (by omega) (fun n xs i out => L_laws_toApartS_0_3_eq n xs i out) hy
  exact ⟨n, (F_laws_toApartS_eq n a0).trans hn⟩
/-! ## laws.toRoleSet (18) -/
noncomputable def c_laws_toRoleSet : Ctr := ⟨18, [TyRoleSet], [TyRoleSet], fun x => toC TyRoleSet x.1⟩
def A_laws_toRoleSet : List (List Nat × Ann) := []
def In_laws_toRoleSet : List (List Nat × Nat) := []
noncomputable def cs_laws_toRoleSet : List Ctr := [c_laws_toRoleS, c_laws_toApartS, c_laws_toStringS]
noncomputable def F_laws_toRoleSet (n : Nat) (a0 : DRoleSet) : Option DRoleSet := run Try.prog A_laws_toRoleSet In_laws_toRoleSet (conOf cs_laws_toRoleSet) Try.f18 (Try.f18.body.getD .skip) (packT [TyRoleSet]) n (argsV [TyRoleSet] (a0, ()))
theorem F_laws_toRoleSet_eq (n : Nat) (a0 : DRoleSet) : F_laws_toRoleSet n a0 =
    Option.bind (toC (.list TyRole) a0.1) fun (y1 : (List DRole)) =>
    Option.bind (toC (.list TyApart) a0.2.1) fun (y2 : (List DApart)) =>
    Option.bind (toC (.list .str) a0.2.2) fun (y3 : (List (List Int))) =>
    some (y1, y2, y3) := by kernel_rfl
theorem mk_laws_toRoleSet (hcs : ∀ x ∈ cs_laws_toRoleSet, CtrOk Try.prog x) (h : ∀ (a0 : DRoleSet) y, toC TyRoleSet a0 = some y → ∃ n, F_laws_toRoleSet n a0 = some y) : CtrOk Try.prog c_laws_toRoleSet := by
  refine ctr_of_run (c := c_laws_toRoleSet) (by kernel_rfl) (by kernel_rfl : Try.prog.funcs[18]? = some Try.f18) (code := Try.f18.body.getD .skip) (by kernel_rfl) (by kernel_rfl) (by kernel_rfl) (A := A_laws_toRoleSet) (I := In_laws_toRoleSet) hcs ?_
  rintro ⟨a0, u⟩ y hy
  exact h a0 y hy

theorem hcs_laws_toRoleSet : ∀ x ∈ cs_laws_toRoleSet, CtrOk Try.prog x := (conOf_cons ok_laws_toRoleS (conOf_cons ok_laws_toApartS (conOf_cons ok_laws_toStringS conOf_nil)))
theorem ok_laws_toRoleSet : CtrOk Try.prog c_laws_toRoleSet := mk_laws_toRoleSet hcs_laws_toRoleSet fun a0 y hy => by
  obtain ⟨hw, hs, rfl⟩ := toC_inv hy
  have hw2 : wfD (.list TyRole) y.1 ∧ wfD (.list TyApart) y.2.1 ∧ wfD (.list .str) y.2.2 := hw
  have hs2 : Ty.size (.list TyRole) y.1 + (Ty.size (.list TyApart) y.2.1 + (Ty.size (.list .str) y.2.2)) ≤ 1073741824 := hs
  refine ⟨0, ?_⟩
  rw [F_laws_toRoleSet_eq]
  try (rw [toC_some hw2.1 (by omega)]; simp only [Option.bind_some])
  try (rw [toC_some hw2.2.1 (by omega)]; simp only [Option.bind_some])
  try (rw [toC_some hw2.2.2 (by omega)]; simp only [Option.bind_some])
  try rfl
/-! ## laws.toStringS (54) -/
noncomputable def cd_laws_toStringS : Ctr := deepOf 54 [(.list .str)] [(.list .str)] fun x => toC (.list .str) x.1
def Ap_laws_toStringS : List (List Nat × Ann) := [([0, 3], [.keep 0 0, .drb 0 3 .str, .keep 0 4])]
def Inp_laws_toStringS : List (List Nat × Nat) := [([1002], 0)]
noncomputable def csp_laws_toStringS : List Ctr := []
noncomputable def Fp_laws_toStringS (n : Nat) (a0 : (List (List Int))) : Option (List (List Int)) := runE Try.prog noG Ap_laws_toStringS Inp_laws_toStringS (conOf csp_laws_toStringS) Try.f54 (Try.f54.body.getD .skip) (endP Try.prog Try.f54 [(.list .str)]) n (argsV [(.list .str)] (a0, ()))
noncomputable abbrev Lp_laws_toStringS_0_3 (n : Nat) (x1 : (List (List Int))) (x2 : (List (List Int))) (x3 : Int) : Option (List (List Int)) := lamE Try.prog noG Ap_laws_toStringS Inp_laws_toStringS (conOf csp_laws_toStringS) Try.f54 (Try.f54.body.getD .skip) (endP Try.prog Try.f54 [(.list .str)]) n [0, 3] [.d (.list .str) x1, .d (.list .str) x2, .d I64 x3]
theorem Fp_laws_toStringS_eq (n : Nat) (a0 : (List (List Int))) : Fp_laws_toStringS n a0 =
    bif decide ((a0.length : Int) = (a0.length : Int)) && decide ((0 : Int) ≤ (a0.length : Int)) && decide ((a0.length : Int) * 16 ≤ room) && true && true && true then
      Lp_laws_toStringS_0_3 n a0 (List.replicate (Int.toNat (a0.length : Int)) ([] : List Int)) 0
    else none := by kernel_rfl
theorem Lp_laws_toStringS_0_3_eq (n : Nat) (x1 : (List (List Int))) (x2 : (List (List Int))) (x3 : Int) : Lp_laws_toStringS_0_3 (n + 1) x1 x2 x3 =
    bif decide (x3 < (x1.length : Int)) then
      bif inB x3 x1.length then
        bif inB x3 x2.length then
          bif inB x3 x2.length && true && true && true && true && true && true then
            Lp_laws_toStringS_0_3 n x1 (x2.set (Int.toNat x3) (rd x1 x3 (Ty.dflt .str))) (IntKind.wrap .i64 (x3 + 1))
          else none
        else none
      else none
    else
      some x2 := by kernel_rfl
theorem hcsp_laws_toStringS : ∀ x ∈ csp_laws_toStringS, CtrOk Try.prog x := conOf_nil
theorem okd_laws_toStringS : CtrOk Try.prog cd_laws_toStringS := by
  refine ctr_of_deep (by kernel_rfl) (by kernel_rfl : Try.prog.funcs[54]? = some Try.f54) (code := Try.f54.body.getD .skip) (by kernel_rfl) (by kernel_rfl) (A := Ap_laws_toStringS) (I := Inp_laws_toStringS) hcsp_laws_toStringS ?_
  rintro ⟨a0, u⟩ y hy
  obtain ⟨n, hn⟩ := toD_ok (t := .str) (f := fun x => some x) (fun x _ _ => rfl) (L := fun n xs i out => Lp_laws_toStringS_0_3 n xs out i) (by_ := 16) (by omega) (fun n xs i out => Lp_laws_toStringS_0_3_eq n xs out i) hy
  exact ⟨n, (Fp_laws_toStringS_eq n a0).trans hn⟩

/-! ## laws.toRole (105) -/
noncomputable def cd_laws_toRole : Ctr := deepOf 105 [TyRole] [TyRole] fun x => toC TyRole x.1
def Ap_laws_toRole : List (List Nat × Ann) := []
def Inp_laws_toRole : List (List Nat × Nat) := [([3002], 2000054), ([4002], 2000054)]
noncomputable def csp_laws_toRole : List Ctr := [cd_laws_toStringS]
noncomputable def Fp_laws_toRole (n : Nat) (a0 : DRole) : Option DRole := runE Try.prog noG Ap_laws_toRole Inp_laws_toRole (conOf csp_laws_toRole) Try.f105 (Try.f105.body.getD .skip) (endP Try.prog Try.f105 [TyRole]) n (argsV [TyRole] (a0, ()))
theorem Fp_laws_toRole_eq (n : Nat) (a0 : DRole) : Fp_laws_toRole n a0 =
    Option.bind (toC (.list .str) a0.2.1) fun (y1 : (List (List Int))) =>
    Option.bind (toC (.list .str) a0.2.2) fun (y2 : (List (List Int))) =>
    some (a0.1, y1, y2) := by kernel_rfl
theorem hcsp_laws_toRole : ∀ x ∈ csp_laws_toRole, CtrOk Try.prog x := (conOf_cons okd_laws_toStringS conOf_nil)
theorem okd_laws_toRole : CtrOk Try.prog cd_laws_toRole := by
  refine ctr_of_deep (by kernel_rfl) (by kernel_rfl : Try.prog.funcs[105]? = some Try.f105) (code := Try.f105.body.getD .skip) (by kernel_rfl) (by kernel_rfl) (A := Ap_laws_toRole) (I := Inp_laws_toRole) hcsp_laws_toRole ?_
  rintro ⟨a0, u⟩ y hy
  obtain ⟨hw, hs, rfl⟩ := toC_inv hy
  have hw2 : wfD .str y.1 ∧ wfD (.list .str) y.2.1 ∧ wfD (.list .str) y.2.2 := hw
  have hs2 : Ty.size .str y.1 + (Ty.size (.list .str) y.2.1 + (Ty.size (.list .str) y.2.2)) ≤ 1073741824 := hs
  refine ⟨0, ?_⟩
  show Fp_laws_toRole 0 y = some y
  rw [Fp_laws_toRole_eq]
  try (rw [toC_some hw2.2.1 (by omega)]; simp only [Option.bind_some])
  try (rw [toC_some hw2.2.2 (by omega)]; simp only [Option.bind_some])
  try rfl

/-! ## laws.toRoleS (52) -/
noncomputable def cd_laws_toRoleS : Ctr := deepOf 52 [(.list TyRole)] [(.list TyRole)] fun x => toC (.list TyRole) x.1
def Ap_laws_toRoleS : List (List Nat × Ann) := [([0, 3], [.keep 0 0, .drb 0 3 TyRole, .keep 0 4])]
def Inp_laws_toRoleS : List (List Nat × Nat) := [([1002], 0), ([5006], 2000105)]
noncomputable def csp_laws_toRoleS : List Ctr := [cd_laws_toRole]
noncomputable def Fp_laws_toRoleS (n : Nat) (a0 : (List DRole)) : Option (List DRole) := runE Try.prog noG Ap_laws_toRoleS Inp_laws_toRoleS (conOf csp_laws_toRoleS) Try.f52 (Try.f52.body.getD .skip) (endP Try.prog Try.f52 [(.list TyRole)]) n (argsV [(.list TyRole)] (a0, ()))
noncomputable abbrev Lp_laws_toRoleS_0_3 (n : Nat) (x1 : (List DRole)) (x2 : (List DRole)) (x3 : Int) : Option (List DRole) := lamE Try.prog noG Ap_laws_toRoleS Inp_laws_toRoleS (conOf csp_laws_toRoleS) Try.f52 (Try.f52.body.getD .skip) (endP Try.prog Try.f52 [(.list TyRole)]) n [0, 3] [.d (.list TyRole) x1, .d (.list TyRole) x2, .d I64 x3]
theorem Fp_laws_toRoleS_eq (n : Nat) (a0 : (List DRole)) : Fp_laws_toRoleS n a0 =
    bif decide ((a0.length : Int) = (a0.length : Int)) && decide ((0 : Int) ≤ (a0.length : Int)) && decide ((a0.length : Int) * 64 ≤ room) && true && true && true then
      Lp_laws_toRoleS_0_3 n a0 (List.replicate (Int.toNat (a0.length : Int)) (([] : List Int), [], [])) 0
    else none := by kernel_rfl
theorem Lp_laws_toRoleS_0_3_eq (n : Nat) (x1 : (List DRole)) (x2 : (List DRole)) (x3 : Int) : Lp_laws_toRoleS_0_3 (n + 1) x1 x2 x3 =
    bif decide (x3 < (x1.length : Int)) then
      bif inB x3 x1.length then
        Option.bind (toC TyRole (rd x1 x3 (Ty.dflt TyRole))) fun (y1 : DRole) =>
        bif inB x3 x2.length then
          bif inB x3 x2.length && true && true && true && true && true && true then
            Lp_laws_toRoleS_0_3 n x1 (x2.set (Int.toNat x3) y1) (IntKind.wrap .i64 (x3 + 1))
          else none
        else none
      else none
    else
      some x2 := by kernel_rfl
theorem hcsp_laws_toRoleS : ∀ x ∈ csp_laws_toRoleS, CtrOk Try.prog x := (conOf_cons okd_laws_toRole conOf_nil)
theorem okd_laws_toRoleS : CtrOk Try.prog cd_laws_toRoleS := by
  refine ctr_of_deep (by kernel_rfl) (by kernel_rfl : Try.prog.funcs[52]? = some Try.f52) (code := Try.f52.body.getD .skip) (by kernel_rfl) (by kernel_rfl) (A := Ap_laws_toRoleS) (I := Inp_laws_toRoleS) hcsp_laws_toRoleS ?_
  rintro ⟨a0, u⟩ y hy
  obtain ⟨n, hn⟩ := toD_ok (t := TyRole) (f := toC TyRole) (fun x h h2 => toC_some h h2) (L := fun n xs i out => Lp_laws_toRoleS_0_3 n xs out i) (by_ := 64) (by omega) (fun n xs i out => Lp_laws_toRoleS_0_3_eq n xs out i) hy
  exact ⟨n, (Fp_laws_toRoleS_eq n a0).trans hn⟩

/-! ## laws.toApart (106) -/
noncomputable def cd_laws_toApart : Ctr := deepOf 106 [TyApart] [TyApart] fun x => toC TyApart x.1
def Ap_laws_toApart : List (List Nat × Ann) := []
def Inp_laws_toApart : List (List Nat × Nat) := [([2002], 2000054)]
noncomputable def csp_laws_toApart : List Ctr := [cd_laws_toStringS]
noncomputable def Fp_laws_toApart (n : Nat) (a0 : DApart) : Option DApart := runE Try.prog noG Ap_laws_toApart Inp_laws_toApart (conOf csp_laws_toApart) Try.f106 (Try.f106.body.getD .skip) (endP Try.prog Try.f106 [TyApart]) n (argsV [TyApart] (a0, ()))
theorem Fp_laws_toApart_eq (n : Nat) (a0 : DApart) : Fp_laws_toApart n a0 =
    Option.bind (toC (.list .str) a0.1) fun (y1 : (List (List Int))) =>
    some (y1, a0.2) := by kernel_rfl
theorem hcsp_laws_toApart : ∀ x ∈ csp_laws_toApart, CtrOk Try.prog x := (conOf_cons okd_laws_toStringS conOf_nil)
theorem okd_laws_toApart : CtrOk Try.prog cd_laws_toApart := by
  refine ctr_of_deep (by kernel_rfl) (by kernel_rfl : Try.prog.funcs[106]? = some Try.f106) (code := Try.f106.body.getD .skip) (by kernel_rfl) (by kernel_rfl) (A := Ap_laws_toApart) (I := Inp_laws_toApart) hcsp_laws_toApart ?_
  rintro ⟨a0, u⟩ y hy
  obtain ⟨hw, hs, rfl⟩ := toC_inv hy
  have hw2 : wfD (.list .str) y.1 ∧ wfD I64 y.2.1 ∧ wfD .bool y.2.2 := hw
  have hs2 : Ty.size (.list .str) y.1 + (Ty.size I64 y.2.1 + (Ty.size .bool y.2.2)) ≤ 1073741824 := hs
  refine ⟨0, ?_⟩
  show Fp_laws_toApart 0 y = some y
  rw [Fp_laws_toApart_eq]
  try (rw [toC_some hw2.1 (by omega)]; simp only [Option.bind_some])
  try rfl

/-! ## laws.toApartS (53) -/
noncomputable def cd_laws_toApartS : Ctr := deepOf 53 [(.list TyApart)] [(.list TyApart)] fun x => toC (.list TyApart) x.1
def Ap_laws_toApartS : List (List Nat × Ann) := [([0, 3], [.keep 0 0, .drb 0 3 TyApart, .keep 0 4])]
def Inp_laws_toApartS : List (List Nat × Nat) := [([1002], 0), ([5006], 2000106)]
noncomputable def csp_laws_toApartS : List Ctr := [cd_laws_toApart]
noncomputable def Fp_laws_toApartS (n : Nat) (a0 : (List DApart)) : Option (List DApart) := runE Try.prog noG Ap_laws_toApartS Inp_laws_toApartS (conOf csp_laws_toApartS) Try.f53 (Try.f53.body.getD .skip) (endP Try.prog Try.f53 [(.list TyApart)]) n (argsV [(.list TyApart)] (a0, ()))
noncomputable abbrev Lp_laws_toApartS_0_3 (n : Nat) (x1 : (List DApart)) (x2 : (List DApart)) (x3 : Int) : Option (List DApart) := lamE Try.prog noG Ap_laws_toApartS Inp_laws_toApartS (conOf csp_laws_toApartS) Try.f53 (Try.f53.body.getD .skip) (endP Try.prog Try.f53 [(.list TyApart)]) n [0, 3] [.d (.list TyApart) x1, .d (.list TyApart) x2, .d I64 x3]
theorem Fp_laws_toApartS_eq (n : Nat) (a0 : (List DApart)) : Fp_laws_toApartS n a0 =
    bif decide ((a0.length : Int) = (a0.length : Int)) && decide ((0 : Int) ≤ (a0.length : Int)) && decide ((a0.length : Int) * 40 ≤ room) && true && true && true then
      Lp_laws_toApartS_0_3 n a0 (List.replicate (Int.toNat (a0.length : Int)) ([], 0, false)) 0
    else none := by kernel_rfl
theorem Lp_laws_toApartS_0_3_eq (n : Nat) (x1 : (List DApart)) (x2 : (List DApart)) (x3 : Int) : Lp_laws_toApartS_0_3 (n + 1) x1 x2 x3 =
    bif decide (x3 < (x1.length : Int)) then
      bif inB x3 x1.length then
        Option.bind (toC TyApart (rd x1 x3 (Ty.dflt TyApart))) fun (y1 : DApart) =>
        bif inB x3 x2.length then
          bif inB x3 x2.length && true && true && true && true && true && true then
            Lp_laws_toApartS_0_3 n x1 (x2.set (Int.toNat x3) y1) (IntKind.wrap .i64 (x3 + 1))
          else none
        else none
      else none
    else
      some x2 := by kernel_rfl
theorem hcsp_laws_toApartS : ∀ x ∈ csp_laws_toApartS, CtrOk Try.prog x := (conOf_cons okd_laws_toApart conOf_nil)
theorem okd_laws_toApartS : CtrOk Try.prog cd_laws_toApartS := by
  refine ctr_of_deep (by kernel_rfl) (by kernel_rfl : Try.prog.funcs[53]? = some Try.f53) (code := Try.f53.body.getD .skip) (by kernel_rfl) (by kernel_rfl) (A := Ap_laws_toApartS) (I := Inp_laws_toApartS) hcsp_laws_toApartS ?_
  rintro ⟨a0, u⟩ y hy
  obtain ⟨n, hn⟩ := toD_ok (t := TyApart) (f := toC TyApart) (fun x h h2 => toC_some h h2) (L := fun n xs i out => Lp_laws_toApartS_0_3 n xs out i) (by_ := 40) (by omega) (fun n xs i out => Lp_laws_toApartS_0_3_eq n xs out i) hy
  exact ⟨n, (Fp_laws_toApartS_eq n a0).trans hn⟩

/-! ## laws.toRoleSet (18) -/
noncomputable def cd_laws_toRoleSet : Ctr := deepOf 18 [TyRoleSet] [TyRoleSet] fun x => toC TyRoleSet x.1
def Ap_laws_toRoleSet : List (List Nat × Ann) := []
def Inp_laws_toRoleSet : List (List Nat × Nat) := [([2002], 2000052), ([3002], 2000053), ([4002], 2000054)]
noncomputable def csp_laws_toRoleSet : List Ctr := [cd_laws_toRoleS, cd_laws_toApartS, cd_laws_toStringS]
noncomputable def Fp_laws_toRoleSet (n : Nat) (a0 : DRoleSet) : Option DRoleSet := runE Try.prog noG Ap_laws_toRoleSet Inp_laws_toRoleSet (conOf csp_laws_toRoleSet) Try.f18 (Try.f18.body.getD .skip) (endP Try.prog Try.f18 [TyRoleSet]) n (argsV [TyRoleSet] (a0, ()))
theorem Fp_laws_toRoleSet_eq (n : Nat) (a0 : DRoleSet) : Fp_laws_toRoleSet n a0 =
    Option.bind (toC (.list TyRole) a0.1) fun (y1 : (List DRole)) =>
    Option.bind (toC (.list TyApart) a0.2.1) fun (y2 : (List DApart)) =>
    Option.bind (toC (.list .str) a0.2.2) fun (y3 : (List (List Int))) =>
    some (y1, y2, y3) := by kernel_rfl
theorem hcsp_laws_toRoleSet : ∀ x ∈ csp_laws_toRoleSet, CtrOk Try.prog x := (conOf_cons okd_laws_toRoleS (conOf_cons okd_laws_toApartS (conOf_cons okd_laws_toStringS conOf_nil)))
theorem okd_laws_toRoleSet : CtrOk Try.prog cd_laws_toRoleSet := by
  refine ctr_of_deep (by kernel_rfl) (by kernel_rfl : Try.prog.funcs[18]? = some Try.f18) (code := Try.f18.body.getD .skip) (by kernel_rfl) (by kernel_rfl) (A := Ap_laws_toRoleSet) (I := Inp_laws_toRoleSet) hcsp_laws_toRoleSet ?_
  rintro ⟨a0, u⟩ y hy
  obtain ⟨hw, hs, rfl⟩ := toC_inv hy
  have hw2 : wfD (.list TyRole) y.1 ∧ wfD (.list TyApart) y.2.1 ∧ wfD (.list .str) y.2.2 := hw
  have hs2 : Ty.size (.list TyRole) y.1 + (Ty.size (.list TyApart) y.2.1 + (Ty.size (.list .str) y.2.2)) ≤ 1073741824 := hs
  refine ⟨0, ?_⟩
  show Fp_laws_toRoleSet 0 y = some y
  rw [Fp_laws_toRoleSet_eq]
  try (rw [toC_some hw2.1 (by omega)]; simp only [Option.bind_some])
  try (rw [toC_some hw2.2.1 (by omega)]; simp only [Option.bind_some])
  try (rw [toC_some hw2.2.2 (by omega)]; simp only [Option.bind_some])
  try rfl

/-! ## impl.JuniorsOf (24) -/
noncomputable def co_impl_JuniorsOf : Ctr := ownOf 24 [TyRoleSet, .str] .str fun x => P_impl_JuniorsOf x.1 x.2.1
def Ao_impl_JuniorsOf : List (List Nat × Ann) := []
def Ino_impl_JuniorsOf : List (List Nat × Nat) := [([3004], 1000072)]
noncomputable def cso_impl_JuniorsOf : List Ctr := [c_impl_GoodRoleSet, c_impl_RoleSet_yjuniors, co_impl_ysorted]
noncomputable def Fo_impl_JuniorsOf (n : Nat) (a0 : DRoleSet) (a1 : (List Int)) : Option (List (List Int)) := runE Try.prog noG Ao_impl_JuniorsOf Ino_impl_JuniorsOf (conOf cso_impl_JuniorsOf) Try.f24 (Try.f24.body.getD .skip) (endO Try.prog Try.f24 .str) n (argsV [TyRoleSet, .str] (a0, a1, ()))
theorem Fo_impl_JuniorsOf_eq (n : Nat) (a0 : DRoleSet) (a1 : (List Int)) : Fo_impl_JuniorsOf n a0 a1 =
    Option.bind (P_impl_GoodRoleSet a0) fun (y1 : Bool) =>
    bif !(y1) then
      some ([])
    else
      Option.bind (E_impl_RoleSet_yjuniors a0 ([a1] : List (List Int))) fun (y2 : (List ((List Int) × Bool))) =>
      Option.bind (keysF (v := .bool) y2) fun (y3 : (List (List Int))) =>
      some y3 := by kernel_rfl
theorem So_impl_JuniorsOf (a0 : DRoleSet) (a1 : (List Int)) {r : (List (List Int))} (h : P_impl_JuniorsOf a0 a1 = some r) : Ev (fun n => Fo_impl_JuniorsOf n a0 a1) r := by
  rw [P_impl_JuniorsOf] at h
  refine Ev.of_eq ?_ (fun n => Fo_impl_JuniorsOf_eq n a0 a1)
  exact (Ev.ofBind h fun y1 h => (Ev.ofBif h (fun h => (Ev.ofSome h)) (fun h => (Ev.ofBind h fun y2 h => (Ev.ofBind h fun y3 h => (Ev.ofSome h))))))
theorem hcso_impl_JuniorsOf : ∀ x ∈ cso_impl_JuniorsOf, CtrOk Try.prog x := (conOf_cons ok_impl_GoodRoleSet (conOf_cons ok_impl_RoleSet_yjuniors (conOf_cons oko_impl_ysorted conOf_nil)))
theorem oko_impl_JuniorsOf : CtrOk Try.prog (co_impl_JuniorsOf) := by
  refine ctr_of_own (by kernel_rfl) (by kernel_rfl : Try.prog.funcs[24]? = some Try.f24) (code := Try.f24.body.getD .skip) (by kernel_rfl) (by kernel_rfl) (A := Ao_impl_JuniorsOf) (I := Ino_impl_JuniorsOf) (hcso_impl_JuniorsOf) ?_
  rintro ⟨a0, a1, u⟩ y hy
  exact (So_impl_JuniorsOf a0 a1 hy).get

noncomputable def cd_impl_JuniorsOf : Ctr := deepOf 24 [TyRoleSet, .str] [(.list .str)] fun x => P_impl_JuniorsOf x.1 x.2.1
theorem okd_impl_JuniorsOf : CtrOk Try.prog (cd_impl_JuniorsOf) := deep_of_own (by kernel_rfl) (by kernel_rfl) oko_impl_JuniorsOf

/-! ## laws.markText (76) -/
noncomputable def P_laws_markText_0_4 : Nat → Int → (List Int) → Option (List Int)
  | 0, _, _ => none
  | m + 1, x1, x2 =>
      bif decide ((0 : Int) < x1) then
        bif decide ((([IntKind.wrap .u8 (IntKind.wrap .i64 (48 + (Int.tmod x1 10)))] : List Int).length : Int) ≤ room) then
          bif decide ((([IntKind.wrap .u8 (IntKind.wrap .i64 (48 + (Int.tmod x1 10)))] : List Int).length : Int) + (x2.length : Int) ≤ room) then
            P_laws_markText_0_4 m (IntKind.wrap .i64 (Int.tdiv x1 10)) (([IntKind.wrap .u8 (IntKind.wrap .i64 (48 + (Int.tmod x1 10)))] : List Int) ++ x2)
          else none
        else none
      else
        bif decide ((([109] : List Int).length : Int) + (x2.length : Int) ≤ room) then
          some (([109] : List Int) ++ x2)
        else none
noncomputable def P_laws_markText (m : Nat) (a0 : Int) : Option (List Int) :=
  bif decide (a0 ≤ 0) then
    some ([109, 48] : List Int)
  else
    P_laws_markText_0_4 m a0 ([] : List Int)
noncomputable def E_laws_markText (a0 : Int) : Option (List Int) := evOpt fun m => P_laws_markText m a0
noncomputable def c_laws_markText : Ctr := ⟨76, [I64], [.str], fun x => E_laws_markText x.1⟩
def A_laws_markText : List (List Nat × Ann) := [([0, 4], [.keep 0 0, .keep 0 3])]
def In_laws_markText : List (List Nat × Nat) := []
noncomputable def cs_laws_markText : List Ctr := []
noncomputable def F_laws_markText (n : Nat) (a0 : Int) : Option (List Int) := run Try.prog A_laws_markText In_laws_markText (conOf cs_laws_markText) Try.f76 (Try.f76.body.getD .skip) (packT [.str]) n (argsV [I64] (a0, ()))
noncomputable abbrev L_laws_markText_0_4 (n : Nat) (x1 : Int) (x2 : (List Int)) : Option (List Int) := lam Try.prog A_laws_markText In_laws_markText (conOf cs_laws_markText) Try.f76 (Try.f76.body.getD .skip) (packT [.str]) n [0, 4] [.d I64 x1, .d .str x2]
theorem F_laws_markText_eq (n : Nat) (a0 : Int) : F_laws_markText n a0 =
    bif decide (a0 ≤ 0) then
      some ([109, 48] : List Int)
    else
      L_laws_markText_0_4 n a0 ([] : List Int) := by kernel_rfl
theorem L_laws_markText_0_4_eq (n : Nat) (x1 : Int) (x2 : (List Int)) : L_laws_markText_0_4 (n + 1) x1 x2 =
    bif decide ((0 : Int) < x1) then
      bif decide ((([IntKind.wrap .u8 (IntKind.wrap .i64 (48 + (Int.tmod x1 10)))] : List Int).length : Int) ≤ room) then
        bif decide ((([IntKind.wrap .u8 (IntKind.wrap .i64 (48 + (Int.tmod x1 10)))] : List Int).length : Int) + (x2.length : Int) ≤ room) then
          L_laws_markText_0_4 n (IntKind.wrap .i64 (Int.tdiv x1 10)) (([IntKind.wrap .u8 (IntKind.wrap .i64 (48 + (Int.tmod x1 10)))] : List Int) ++ x2)
        else none
      else none
    else
      bif decide ((([109] : List Int).length : Int) + (x2.length : Int) ≤ room) then
        some (([109] : List Int) ++ x2)
      else none := by kernel_rfl
theorem S_laws_markText_0_4 : ∀ (m : Nat) (x1 : Int) (x2 : (List Int)) (r : (List Int)), P_laws_markText_0_4 m x1 x2 = some r → Ev (fun n => L_laws_markText_0_4 n x1 x2) r := by
  intro m
  induction m with
  | zero => intro x1 x2 r h; rw [P_laws_markText_0_4] at h; exact Ev.ofNone h
  | succ m ih2 =>
    intro x1 x2 r h
    rw [P_laws_markText_0_4] at h
    refine Ev.step ?_ (fun n => L_laws_markText_0_4_eq n x1 x2)
    exact (Ev.ofBif h (fun h => (Ev.ofBif h (fun h => (Ev.ofBif h (fun h => (ih2 _ _ _ h)) (fun h => (Ev.ofNone h)))) (fun h => (Ev.ofNone h)))) (fun h => (Ev.ofBif h (fun h => (Ev.ofSome h)) (fun h => (Ev.ofNone h)))))
theorem S_laws_markText {m : Nat} (a0 : Int) {r : (List Int)} (h : P_laws_markText m a0 = some r) : Ev (fun n => F_laws_markText n a0) r := by
  rw [P_laws_markText] at h
  refine Ev.of_eq ?_ (fun n => F_laws_markText_eq n a0)
  exact (Ev.ofBif h (fun h => (Ev.ofSome h)) (fun h => (S_laws_markText_0_4 _ _ _ _ h)))
theorem hcs_laws_markText : ∀ x ∈ cs_laws_markText, CtrOk Try.prog x := conOf_nil
theorem ok_laws_markText : CtrOk Try.prog (c_laws_markText) := by
  refine ctr_of_run (c := c_laws_markText) (by kernel_rfl) (by kernel_rfl : Try.prog.funcs[76]? = some Try.f76) (code := Try.f76.body.getD .skip) (by kernel_rfl) (by kernel_rfl) (by kernel_rfl) (A := A_laws_markText) (I := In_laws_markText) (hcs_laws_markText) ?_
  rintro ⟨a0, u⟩ y hy
  exact let ⟨_, h⟩ := (evOpt_get hy).get; (S_laws_markText a0 h).get
theorem markText_l : ∀ (m n : Nat) (acc : List Int), n < m → acc.length + n ≤ 2000000000000 → P_laws_markText_0_4 m (n : Int) acc = some (109 :: (mdig m n ++ acc))
  | 0, n, acc, h, _ => by omega
  | m + 1, n, acc, h, hb => by
    rw [P_laws_markText_0_4]
    by_cases h0 : n = 0
    · subst h0
      rw [decide_eq_false (by omega)]
      simp only [cond_false]
      rw [decide_eq_true (by rw [room_eq]; simp only [List.length_singleton]; omega)]
      simp [mdig]
    · have e1 : Int.tmod (n : Int) 10 = ((n % 10 : Nat) : Int) := by rw [Int.tmod_eq_emod_of_nonneg (by omega)]; omega
      have e2 : Int.tdiv (n : Int) 10 = ((n / 10 : Nat) : Int) := by rw [Int.tdiv_eq_ediv_of_nonneg (by omega)]; omega
      have hd : n % 10 < 10 := Nat.mod_lt _ (by omega)
      rw [decide_eq_true (by omega), e1, e2, wrap64 (x := 48 + ((n % 10 : Nat) : Int)) (by omega), wrap64 (x := ((n / 10 : Nat) : Int)) (by omega), wrap_inK (show inK .u8 (48 + ((n % 10 : Nat) : Int)) = true by rw [inK_iff, min_u8, max_u8]; omega)]
      simp only [cond_true, List.length_singleton]
      rw [decide_eq_true (by rw [room_eq]; omega), decide_eq_true (by rw [room_eq]; omega)]
      simp only [cond_true]
      rw [markText_l m (n / 10) _ (by omega) (by simp; omega)]
      simp [mdig, h0]
theorem mdig_same : ∀ (m m' n : Nat), n < m → n < m' → mdig m n = mdig m' n
  | 0, _, _, h, _ => by omega
  | _, 0, _, _, h => by omega
  | m + 1, m' + 1, n, h, h' => by
    simp only [mdig]
    by_cases h0 : n = 0
    · simp [h0]
    · rw [if_neg h0, if_neg h0, mdig_same m m' (n / 10) (by omega) (by omega)]
theorem p_markText (k : Int) (h0 : 0 ≤ k) (h1 : k ≤ markTop) : E_laws_markText k = some (mtext k) := by
  refine evOpt_of ⟨k.toNat + 1, fun m hm => ?_⟩
  show P_laws_markText m k = some (mtext k)
  rw [P_laws_markText]
  unfold mtext
  by_cases h : k ≤ 0
  · rw [decide_eq_true h, if_pos h]; rfl
  · rw [decide_eq_false h, if_neg h]
    simp only [cond_false]
    have := markText_l m k.toNat [] (by omega) (by unfold markTop at h1; simp; omega)
    rw [Int.toNat_of_nonneg h0] at this
    rw [this, List.append_nil, mdig_same m (k.toNat + 1) k.toNat (by omega) (by omega)]
theorem text_laws_markText : TextOk Try.prog 76 := text_ok (by kernel_rfl) ok_laws_markText fun k h0 h1 => p_markText k h0 h1

/-! ## laws.markStringS (27) -/
theorem hot_laws_markStringS : HotOk Try.prog 27 (.list .str) := hot_list (tl := 42) (by kernel_rfl : Try.prog.funcs[27]? = some Try.f27) (c := Try.f27.body.getD .skip) (by kernel_rfl) (by kernel_rfl) (gt := (some 76)) (hs := []) (text_some text_laws_markText) hots_nil (by kernel_rfl)
noncomputable def ch_laws_markStringS : Ctr := hotOf 27 (.list .str) fun x => markC (.list .str) x.1 x.2.1
theorem okh_laws_markStringS : CtrOk Try.prog ch_laws_markStringS := hot_ctr (by kernel_rfl) (by kernel_rfl) hot_laws_markStringS

/-! ## laws.markRoleS (74) -/
theorem hot_laws_markRoleS : HotOk Try.prog 74 (.list TyRole) := hot_list (tl := 53) (by kernel_rfl : Try.prog.funcs[74]? = some Try.f74) (c := Try.f74.body.getD .skip) (by kernel_rfl) (by kernel_rfl) (gt := (some 76)) (hs := [(27, (.list .str))]) (text_some text_laws_markText) (hots_cons hot_laws_markStringS hots_nil) (by kernel_rfl)
noncomputable def ch_laws_markRoleS : Ctr := hotOf 74 (.list TyRole) fun x => markC (.list TyRole) x.1 x.2.1
theorem okh_laws_markRoleS : CtrOk Try.prog ch_laws_markRoleS := hot_ctr (by kernel_rfl) (by kernel_rfl) hot_laws_markRoleS

/-! ## laws.markApartS (75) -/
theorem hot_laws_markApartS : HotOk Try.prog 75 (.list TyApart) := hot_list (tl := 54) (by kernel_rfl : Try.prog.funcs[75]? = some Try.f75) (c := Try.f75.body.getD .skip) (by kernel_rfl) (by kernel_rfl) (gt := none) (hs := [(27, (.list .str))]) text_none (hots_cons hot_laws_markStringS hots_nil) (by kernel_rfl)
noncomputable def ch_laws_markApartS : Ctr := hotOf 75 (.list TyApart) fun x => markC (.list TyApart) x.1 x.2.1
theorem okh_laws_markApartS : CtrOk Try.prog ch_laws_markApartS := hot_ctr (by kernel_rfl) (by kernel_rfl) hot_laws_markApartS

/-! ## laws.markRoleSet (26) -/
theorem hot_laws_markRoleSet : HotOk Try.prog 26 TyRoleSet := hot_struct (by kernel_rfl : Try.prog.funcs[26]? = some Try.f26) (c := Try.f26.body.getD .skip) (by kernel_rfl) (by kernel_rfl) (gt := none) (hs := [(74, (.list TyRole)), (75, (.list TyApart)), (27, (.list .str))]) text_none (hots_cons hot_laws_markRoleS (hots_cons hot_laws_markApartS (hots_cons hot_laws_markStringS hots_nil))) (by kernel_rfl)
noncomputable def ch_laws_markRoleSet : Ctr := hotOf 26 TyRoleSet fun x => markC TyRoleSet x.1 x.2.1
theorem okh_laws_markRoleSet : CtrOk Try.prog ch_laws_markRoleSet := hot_ctr (by kernel_rfl) (by kernel_rfl) hot_laws_markRoleSet

/-! ## laws.heldStringS (28) -/
noncomputable def P_laws_heldStringS_0_2 : List (List Int) → Int → Option Int
  | [], x2 =>
      some x2
  | e :: rest, x2 =>
      Option.bind (E_laws_markText x2) fun (y1 : (List Int)) =>
      bif !decide (e = y1) then
        some (-1)
      else
        P_laws_heldStringS_0_2 rest (IntKind.wrap .i64 (x2 + 1))
noncomputable def P_laws_heldStringS (a0 : (List (List Int))) (a1 : Int) : Option Int :=
  lenOk a0 (P_laws_heldStringS_0_2 a0 a1)
noncomputable def c_laws_heldStringS : Ctr := ⟨28, [(.list .str), I64], [I64], fun x => P_laws_heldStringS x.1 x.2.1⟩
def A_laws_heldStringS : List (List Nat × Ann) := [([0, 2], [.keep 0 0, .keep 0 1, .keep 0 5])]
def In_laws_heldStringS : List (List Nat × Nat) := []
noncomputable def cs_laws_heldStringS : List Ctr := [c_laws_markText]
noncomputable def F_laws_heldStringS (n : Nat) (a0 : (List (List Int))) (a1 : Int) : Option Int := run Try.prog A_laws_heldStringS In_laws_heldStringS (conOf cs_laws_heldStringS) Try.f28 (Try.f28.body.getD .skip) (packT [I64]) n (argsV [(.list .str), I64] (a0, a1, ()))
noncomputable abbrev L_laws_heldStringS_0_2 (n : Nat) (x1 : (List (List Int))) (x2 : Int) (x3 : Int) : Option Int := lam Try.prog A_laws_heldStringS In_laws_heldStringS (conOf cs_laws_heldStringS) Try.f28 (Try.f28.body.getD .skip) (packT [I64]) n [0, 2] [.d (.list .str) x1, .d I64 x2, .d I64 x3]
theorem F_laws_heldStringS_eq (n : Nat) (a0 : (List (List Int))) (a1 : Int) : F_laws_heldStringS n a0 a1 =
    L_laws_heldStringS_0_2 n a0 a1 0 := by kernel_rfl
theorem L_laws_heldStringS_0_2_eq (n : Nat) (x1 : (List (List Int))) (x2 : Int) (x3 : Int) : L_laws_heldStringS_0_2 (n + 1) x1 x2 x3 =
    bif decide (x3 < (x1.length : Int)) then
      bif inB x3 x1.length then
        Option.bind (E_laws_markText x2) fun (y1 : (List Int)) =>
        bif !decide (rd x1 x3 (Ty.dflt .str) = y1) then
          some (-1)
        else
          L_laws_heldStringS_0_2 n x1 (IntKind.wrap .i64 (x2 + 1)) (IntKind.wrap .i64 (x3 + 1))
      else none
    else
      some x2 := by kernel_rfl
theorem S_laws_heldStringS_0_2 {x1 : (List (List Int))} (hl : x1.length ≤ maxLen) : ∀ (rest : List (List Int)) (k : Nat) (x2 : Int) (r : Int), rest = x1.drop k → P_laws_heldStringS_0_2 rest x2 = some r → Ev (fun n => L_laws_heldStringS_0_2 n x1 x2 (k : Int)) r := by
  intro rest
  induction rest with
  | nil =>
    intro k x2 r hr h
    have hk := drop_nil hr
    rw [P_laws_heldStringS_0_2] at h
    refine Ev.step ?_ (fun n => L_laws_heldStringS_0_2_eq n x1 x2 (k : Int))
    rw [show decide ((k : Int) < (x1.length : Int)) = false from decide_eq_false (by omega)]
    exact Ev.neg rfl (Ev.ofSome h)
  | cons e rest ih =>
    intro k x2 r hr h
    obtain ⟨hk, hx, hr2⟩ := drop_cons (d := (Ty.dflt .str)) hr
    have hw := wrap_succ hl hk
    have ih2 : ∀ (z2 : Int) (r : Int), P_laws_heldStringS_0_2 rest z2 = some r → Ev (fun n => L_laws_heldStringS_0_2 n x1 z2 (IntKind.wrap .i64 ((k : Int) + 1))) r := by
      intro z2 r h; rw [hw]; exact ih (k + 1) z2 r hr2 h
    rw [P_laws_heldStringS_0_2] at h
    refine Ev.step ?_ (fun n => L_laws_heldStringS_0_2_eq n x1 x2 (k : Int))
    rw [show decide ((k : Int) < (x1.length : Int)) = true from decide_eq_true (by omega), inB_nat2 hk, hx]
    exact Ev.pos rfl (Ev.pos rfl (Ev.ofBind h fun y1 h => (Ev.ofBif h (fun h => (Ev.ofSome h)) (fun h => (ih2 _ _ h)))))
theorem S_laws_heldStringS (a0 : (List (List Int))) (a1 : Int) {r : Int} (h : P_laws_heldStringS a0 a1 = some r) : Ev (fun n => F_laws_heldStringS n a0 a1) r := by
  rw [P_laws_heldStringS] at h
  refine Ev.of_eq ?_ (fun n => F_laws_heldStringS_eq n a0 a1)
  exact (Ev.ofLen h fun hl h => S_laws_heldStringS_0_2 hl _ (0 : Nat) _ _ rfl h)
theorem hcs_laws_heldStringS : ∀ x ∈ cs_laws_heldStringS, CtrOk Try.prog x := (conOf_cons ok_laws_markText conOf_nil)
theorem ok_laws_heldStringS : CtrOk Try.prog (c_laws_heldStringS) := by
  refine ctr_of_run (c := c_laws_heldStringS) (by kernel_rfl) (by kernel_rfl : Try.prog.funcs[28]? = some Try.f28) (code := Try.f28.body.getD .skip) (by kernel_rfl) (by kernel_rfl) (by kernel_rfl) (A := A_laws_heldStringS) (I := In_laws_heldStringS) (hcs_laws_heldStringS) ?_
  rintro ⟨a0, a1, u⟩ y hy
  exact (S_laws_heldStringS a0 a1 hy).get

/-! ## laws.szStringS (42) -/
noncomputable def c_laws_szStringS : Ctr := ⟨42, [(.list .str), I64], [I64], fun x => szC (.list .str) x.1 x.2.1⟩
def A_laws_szStringS : List (List Nat × Ann) := [([0, 5], [.keep 0 0, .keep 0 1, .keep 0 5])]
def In_laws_szStringS : List (List Nat × Nat) := []
noncomputable def cs_laws_szStringS : List Ctr := []
noncomputable def F_laws_szStringS (n : Nat) (a0 : (List (List Int))) (a1 : Int) : Option Int := run Try.prog A_laws_szStringS In_laws_szStringS (conOf cs_laws_szStringS) Try.f42 (Try.f42.body.getD .skip) (packT [I64]) n (argsV [(.list .str), I64] (a0, a1, ()))
noncomputable abbrev L_laws_szStringS_0_5 (n : Nat) (x1 : (List (List Int))) (x2 : Int) (x3 : Int) : Option Int := lam Try.prog A_laws_szStringS In_laws_szStringS (conOf cs_laws_szStringS) Try.f42 (Try.f42.body.getD .skip) (packT [I64]) n [0, 5] [.d (.list .str) x1, .d I64 x2, .d I64 x3]
theorem F_laws_szStringS_eq (n : Nat) (a0 : (List (List Int))) (a1 : Int) : F_laws_szStringS n a0 a1 =
    bif decide (IntKind.wrap .i64 (a1 - (a0.length : Int)) < 0) then
      some (-1)
    else
      L_laws_szStringS_0_5 n a0 (IntKind.wrap .i64 (a1 - (a0.length : Int))) 0 := by kernel_rfl
theorem L_laws_szStringS_0_5_eq (n : Nat) (x1 : (List (List Int))) (x2 : Int) (x3 : Int) : L_laws_szStringS_0_5 (n + 1) x1 x2 x3 =
    bif decide (x3 < (x1.length : Int)) then
      bif inB x3 x1.length then
        bif decide (IntKind.wrap .i64 (x2 - ((rd x1 x3 (Ty.dflt .str)).length : Int)) < 0) then
          some (-1)
        else
          L_laws_szStringS_0_5 n x1 (IntKind.wrap .i64 (x2 - ((rd x1 x3 (Ty.dflt .str)).length : Int))) (IntKind.wrap .i64 (x3 + 1))
      else none
    else
      some x2 := by kernel_rfl
theorem mk_laws_szStringS (hcs : ∀ x ∈ cs_laws_szStringS, CtrOk Try.prog x) (h : ∀ (a0 : (List (List Int))) (a1 : Int) y, szC (.list .str) a0 a1 = some y → ∃ n, F_laws_szStringS n a0 a1 = some y) : CtrOk Try.prog c_laws_szStringS := by
  refine ctr_of_run (c := c_laws_szStringS) (by kernel_rfl) (by kernel_rfl : Try.prog.funcs[42]? = some Try.f42) (code := Try.f42.body.getD .skip) (by kernel_rfl) (by kernel_rfl) (by kernel_rfl) (A := A_laws_szStringS) (I := In_laws_szStringS) hcs ?_
  rintro ⟨a0, a1, u⟩ y hy
  exact h a0 a1 y hy

theorem hcs_laws_szStringS : ∀ x ∈ cs_laws_szStringS, CtrOk Try.prog x := conOf_nil
theorem ok_laws_szStringS : CtrOk Try.prog c_laws_szStringS := mk_laws_szStringS hcs_laws_szStringS fun a0 a1 y hy => by
  obtain ⟨n, hn⟩ := szS_str (fun n xs s i => L_laws_szStringS_0_5_eq n xs s i) hy
  exact ⟨n, (F_laws_szStringS_eq n a0 a1).trans hn⟩
/-! ## laws.szRole (97) -/
noncomputable def c_laws_szRole : Ctr := ⟨97, [TyRole, I64], [I64], fun x => szC TyRole x.1 x.2.1⟩
def A_laws_szRole : List (List Nat × Ann) := []
def In_laws_szRole : List (List Nat × Nat) := []
noncomputable def cs_laws_szRole : List Ctr := [c_laws_szStringS]
noncomputable def F_laws_szRole (n : Nat) (a0 : DRole) (a1 : Int) : Option Int := run Try.prog A_laws_szRole In_laws_szRole (conOf cs_laws_szRole) Try.f97 (Try.f97.body.getD .skip) (packT [I64]) n (argsV [TyRole, I64] (a0, a1, ()))
theorem F_laws_szRole_eq (n : Nat) (a0 : DRole) (a1 : Int) : F_laws_szRole n a0 a1 =
    bif decide (IntKind.wrap .i64 (a1 - (a0.1.length : Int)) < 0) then
      some (-1)
    else
      Option.bind (szC (.list .str) a0.2.1 (IntKind.wrap .i64 (a1 - (a0.1.length : Int)))) fun (y1 : Int) =>
      bif decide (y1 < 0) then
        some (-1)
      else
        Option.bind (szC (.list .str) a0.2.2 y1) fun (y2 : Int) =>
        bif decide (y2 < 0) then
          some (-1)
        else
          some y2 := by kernel_rfl
theorem mk_laws_szRole (hcs : ∀ x ∈ cs_laws_szRole, CtrOk Try.prog x) (h : ∀ (a0 : DRole) (a1 : Int) y, szC TyRole a0 a1 = some y → ∃ n, F_laws_szRole n a0 a1 = some y) : CtrOk Try.prog c_laws_szRole := by
  refine ctr_of_run (c := c_laws_szRole) (by kernel_rfl) (by kernel_rfl : Try.prog.funcs[97]? = some Try.f97) (code := Try.f97.body.getD .skip) (by kernel_rfl) (by kernel_rfl) (by kernel_rfl) (A := A_laws_szRole) (I := In_laws_szRole) hcs ?_
  rintro ⟨a0, a1, u⟩ y hy
  exact h a0 a1 y hy

theorem hcs_laws_szRole : ∀ x ∈ cs_laws_szRole, CtrOk Try.prog x := (conOf_cons ok_laws_szStringS conOf_nil)
theorem ok_laws_szRole : CtrOk Try.prog c_laws_szRole := mk_laws_szRole hcs_laws_szRole fun a0 a1 y hy => by
  obtain ⟨hw, h0, h1, rfl⟩ := szC_inv hy
  have hw2 : wfD .str a0.1 ∧ wfD (.list .str) a0.2.1 ∧ wfD (.list .str) a0.2.2 := hw
  have hsz : Ty.size TyRole a0 = Ty.size .str a0.1 + (Ty.size (.list .str) a0.2.1 + (Ty.size (.list .str) a0.2.2)) := rfl
  have z0 : Ty.size .str a0.1 = a0.1.length := rfl
  refine ⟨0, ?_⟩
  rw [F_laws_szRole_eq, hsz]
  have hn0 : a0.1.length ≤ maxLen := by have := (hw2.1).1; unfold maxLen; omega
  rw [lessZ_wrap (left := a1) (n := a0.1.length) (by omega) (by omega) hn0]
  rcases Int.lt_or_le (a1) (a0.1.length : Int) with h | h
  · rw [decide_eq_true (show (a1 - (a0.1.length : Int)) < 0 by omega)]; simp only [cond_true]; unfold lessZ; rw [if_neg (by omega)]
  rw [decide_eq_false (show ¬ (a1 - (a0.1.length : Int)) < 0 by omega)]; simp only [cond_false]
  have h_0 := h; clear h
  rw [szC_some hw2.2.1 (show 0 ≤ (a1 - (a0.1.length : Int)) by omega) (by omega)]
  simp only [Option.bind_some]
  rcases Int.lt_or_le ((a1 - (a0.1.length : Int))) ((Ty.size (.list .str) a0.2.1 : Nat) : Int) with h | h
  · rw [show lessZ ((a1 - (a0.1.length : Int))) (Ty.size (.list .str) a0.2.1) = -1 by unfold lessZ; rw [if_neg (by omega)]]; rw [decide_eq_true (show (-1 : Int) < 0 by omega)]; simp only [cond_true]; unfold lessZ; rw [if_neg (by omega)]
  rw [show lessZ ((a1 - (a0.1.length : Int))) (Ty.size (.list .str) a0.2.1) = ((a1 - (a0.1.length : Int)) - ((Ty.size (.list .str) a0.2.1 : Nat) : Int)) by unfold lessZ; rw [if_pos h]]; rw [decide_eq_false (show ¬ ((a1 - (a0.1.length : Int)) - ((Ty.size (.list .str) a0.2.1 : Nat) : Int)) < 0 by omega)]; simp only [cond_false]
  have h_1 := h; clear h
  rw [szC_some hw2.2.2 (show 0 ≤ ((a1 - (a0.1.length : Int)) - ((Ty.size (.list .str) a0.2.1 : Nat) : Int)) by omega) (by omega)]
  simp only [Option.bind_some]
  rcases Int.lt_or_le (((a1 - (a0.1.length : Int)) - ((Ty.size (.list .str) a0.2.1 : Nat) : Int))) ((Ty.size (.list .str) a0.2.2 : Nat) : Int) with h | h
  · rw [show lessZ (((a1 - (a0.1.length : Int)) - ((Ty.size (.list .str) a0.2.1 : Nat) : Int))) (Ty.size (.list .str) a0.2.2) = -1 by unfold lessZ; rw [if_neg (by omega)]]; rw [decide_eq_true (show (-1 : Int) < 0 by omega)]; simp only [cond_true]; unfold lessZ; rw [if_neg (by omega)]
  rw [show lessZ (((a1 - (a0.1.length : Int)) - ((Ty.size (.list .str) a0.2.1 : Nat) : Int))) (Ty.size (.list .str) a0.2.2) = (((a1 - (a0.1.length : Int)) - ((Ty.size (.list .str) a0.2.1 : Nat) : Int)) - ((Ty.size (.list .str) a0.2.2 : Nat) : Int)) by unfold lessZ; rw [if_pos h]]; rw [decide_eq_false (show ¬ (((a1 - (a0.1.length : Int)) - ((Ty.size (.list .str) a0.2.1 : Nat) : Int)) - ((Ty.size (.list .str) a0.2.2 : Nat) : Int)) < 0 by omega)]; simp only [cond_false]
  have h_2 := h; clear h
  unfold lessZ; rw [if_pos (by omega)]; congr 1 <;> omega
/-! ## laws.szRoleS (40) -/
noncomputable def c_laws_szRoleS : Ctr := ⟨40, [(.list TyRole), I64], [I64], fun x => szC (.list TyRole) x.1 x.2.1⟩
def A_laws_szRoleS : List (List Nat × Ann) := [([0, 5], [.keep 0 0, .keep 0 1, .keep 0 5])]
def In_laws_szRoleS : List (List Nat × Nat) := []
noncomputable def cs_laws_szRoleS : List Ctr := [c_laws_szRole]
noncomputable def F_laws_szRoleS (n : Nat) (a0 : (List DRole)) (a1 : Int) : Option Int := run Try.prog A_laws_szRoleS In_laws_szRoleS (conOf cs_laws_szRoleS) Try.f40 (Try.f40.body.getD .skip) (packT [I64]) n (argsV [(.list TyRole), I64] (a0, a1, ()))
noncomputable abbrev L_laws_szRoleS_0_5 (n : Nat) (x1 : (List DRole)) (x2 : Int) (x3 : Int) : Option Int := lam Try.prog A_laws_szRoleS In_laws_szRoleS (conOf cs_laws_szRoleS) Try.f40 (Try.f40.body.getD .skip) (packT [I64]) n [0, 5] [.d (.list TyRole) x1, .d I64 x2, .d I64 x3]
theorem F_laws_szRoleS_eq (n : Nat) (a0 : (List DRole)) (a1 : Int) : F_laws_szRoleS n a0 a1 =
    bif decide (IntKind.wrap .i64 (a1 - (a0.length : Int)) < 0) then
      some (-1)
    else
      L_laws_szRoleS_0_5 n a0 (IntKind.wrap .i64 (a1 - (a0.length : Int))) 0 := by kernel_rfl
theorem L_laws_szRoleS_0_5_eq (n : Nat) (x1 : (List DRole)) (x2 : Int) (x3 : Int) : L_laws_szRoleS_0_5 (n + 1) x1 x2 x3 =
    bif decide (x3 < (x1.length : Int)) then
      bif inB x3 x1.length then
        Option.bind (szC TyRole (rd x1 x3 (Ty.dflt TyRole)) x2) fun (y1 : Int) =>
        bif decide (y1 < 0) then
          some (-1)
        else
          L_laws_szRoleS_0_5 n x1 y1 (IntKind.wrap .i64 (x3 + 1))
      else none
    else
      some x2 := by kernel_rfl
theorem mk_laws_szRoleS (hcs : ∀ x ∈ cs_laws_szRoleS, CtrOk Try.prog x) (h : ∀ (a0 : (List DRole)) (a1 : Int) y, szC (.list TyRole) a0 a1 = some y → ∃ n, F_laws_szRoleS n a0 a1 = some y) : CtrOk Try.prog c_laws_szRoleS := by
  refine ctr_of_run (c := c_laws_szRoleS) (by kernel_rfl) (by kernel_rfl : Try.prog.funcs[40]? = some Try.f40) (code := Try.f40.body.getD .skip) (by kernel_rfl) (by kernel_rfl) (by kernel_rfl) (A := A_laws_szRoleS) (I := In_laws_szRoleS) hcs ?_
  rintro ⟨a0, a1, u⟩ y hy
  exact h a0 a1 y hy

theorem hcs_laws_szRoleS : ∀ x ∈ cs_laws_szRoleS, CtrOk Try.prog x := (conOf_cons ok_laws_szRole conOf_nil)
theorem ok_laws_szRoleS : CtrOk Try.prog c_laws_szRoleS := mk_laws_szRoleS hcs_laws_szRoleS fun a0 a1 y hy => by
  obtain ⟨n, hn⟩ := szS_call (fun n xs s i => L_laws_szRoleS_0_5_eq n xs s i) hy
  exact ⟨n, (F_laws_szRoleS_eq n a0 a1).trans hn⟩
/-! ## laws.szApart (98) -/
noncomputable def c_laws_szApart : Ctr := ⟨98, [TyApart, I64], [I64], fun x => szC TyApart x.1 x.2.1⟩
def A_laws_szApart : List (List Nat × Ann) := []
def In_laws_szApart : List (List Nat × Nat) := []
noncomputable def cs_laws_szApart : List Ctr := [c_laws_szStringS]
noncomputable def F_laws_szApart (n : Nat) (a0 : DApart) (a1 : Int) : Option Int := run Try.prog A_laws_szApart In_laws_szApart (conOf cs_laws_szApart) Try.f98 (Try.f98.body.getD .skip) (packT [I64]) n (argsV [TyApart, I64] (a0, a1, ()))
theorem F_laws_szApart_eq (n : Nat) (a0 : DApart) (a1 : Int) : F_laws_szApart n a0 a1 =
    Option.bind (szC (.list .str) a0.1 a1) fun (y1 : Int) =>
    bif decide (y1 < 0) then
      some (-1)
    else
      some y1 := by kernel_rfl
theorem mk_laws_szApart (hcs : ∀ x ∈ cs_laws_szApart, CtrOk Try.prog x) (h : ∀ (a0 : DApart) (a1 : Int) y, szC TyApart a0 a1 = some y → ∃ n, F_laws_szApart n a0 a1 = some y) : CtrOk Try.prog c_laws_szApart := by
  refine ctr_of_run (c := c_laws_szApart) (by kernel_rfl) (by kernel_rfl : Try.prog.funcs[98]? = some Try.f98) (code := Try.f98.body.getD .skip) (by kernel_rfl) (by kernel_rfl) (by kernel_rfl) (A := A_laws_szApart) (I := In_laws_szApart) hcs ?_
  rintro ⟨a0, a1, u⟩ y hy
  exact h a0 a1 y hy

theorem hcs_laws_szApart : ∀ x ∈ cs_laws_szApart, CtrOk Try.prog x := (conOf_cons ok_laws_szStringS conOf_nil)
theorem ok_laws_szApart : CtrOk Try.prog c_laws_szApart := mk_laws_szApart hcs_laws_szApart fun a0 a1 y hy => by
  obtain ⟨hw, h0, h1, rfl⟩ := szC_inv hy
  have hw2 : wfD (.list .str) a0.1 ∧ wfD I64 a0.2.1 ∧ wfD .bool a0.2.2 := hw
  have hsz : Ty.size TyApart a0 = Ty.size (.list .str) a0.1 + (Ty.size I64 a0.2.1 + (Ty.size .bool a0.2.2)) := rfl
  have z1 : Ty.size I64 a0.2.1 = 0 := rfl
  have z2 : Ty.size .bool a0.2.2 = 0 := rfl
  refine ⟨0, ?_⟩
  rw [F_laws_szApart_eq, hsz]
  rw [szC_some hw2.1 (show 0 ≤ a1 by omega) (by omega)]
  simp only [Option.bind_some]
  rcases Int.lt_or_le (a1) ((Ty.size (.list .str) a0.1 : Nat) : Int) with h | h
  · rw [show lessZ (a1) (Ty.size (.list .str) a0.1) = -1 by unfold lessZ; rw [if_neg (by omega)]]; rw [decide_eq_true (show (-1 : Int) < 0 by omega)]; simp only [cond_true]; unfold lessZ; rw [if_neg (by omega)]
  rw [show lessZ (a1) (Ty.size (.list .str) a0.1) = (a1 - ((Ty.size (.list .str) a0.1 : Nat) : Int)) by unfold lessZ; rw [if_pos h]]; rw [decide_eq_false (show ¬ (a1 - ((Ty.size (.list .str) a0.1 : Nat) : Int)) < 0 by omega)]; simp only [cond_false]
  have h_0 := h; clear h
  unfold lessZ; rw [if_pos (by omega)]; congr 1 <;> omega
/-! ## laws.szApartS (41) -/
noncomputable def c_laws_szApartS : Ctr := ⟨41, [(.list TyApart), I64], [I64], fun x => szC (.list TyApart) x.1 x.2.1⟩
def A_laws_szApartS : List (List Nat × Ann) := [([0, 5], [.keep 0 0, .keep 0 1, .keep 0 5])]
def In_laws_szApartS : List (List Nat × Nat) := []
noncomputable def cs_laws_szApartS : List Ctr := [c_laws_szApart]
noncomputable def F_laws_szApartS (n : Nat) (a0 : (List DApart)) (a1 : Int) : Option Int := run Try.prog A_laws_szApartS In_laws_szApartS (conOf cs_laws_szApartS) Try.f41 (Try.f41.body.getD .skip) (packT [I64]) n (argsV [(.list TyApart), I64] (a0, a1, ()))
noncomputable abbrev L_laws_szApartS_0_5 (n : Nat) (x1 : (List DApart)) (x2 : Int) (x3 : Int) : Option Int := lam Try.prog A_laws_szApartS In_laws_szApartS (conOf cs_laws_szApartS) Try.f41 (Try.f41.body.getD .skip) (packT [I64]) n [0, 5] [.d (.list TyApart) x1, .d I64 x2, .d I64 x3]
theorem F_laws_szApartS_eq (n : Nat) (a0 : (List DApart)) (a1 : Int) : F_laws_szApartS n a0 a1 =
    bif decide (IntKind.wrap .i64 (a1 - (a0.length : Int)) < 0) then
      some (-1)
    else
      L_laws_szApartS_0_5 n a0 (IntKind.wrap .i64 (a1 - (a0.length : Int))) 0 := by kernel_rfl
theorem L_laws_szApartS_0_5_eq (n : Nat) (x1 : (List DApart)) (x2 : Int) (x3 : Int) : L_laws_szApartS_0_5 (n + 1) x1 x2 x3 =
    bif decide (x3 < (x1.length : Int)) then
      bif inB x3 x1.length then
        Option.bind (szC TyApart (rd x1 x3 (Ty.dflt TyApart)) x2) fun (y1 : Int) =>
        bif decide (y1 < 0) then
          some (-1)
        else
          L_laws_szApartS_0_5 n x1 y1 (IntKind.wrap .i64 (x3 + 1))
      else none
    else
      some x2 := by kernel_rfl
theorem mk_laws_szApartS (hcs : ∀ x ∈ cs_laws_szApartS, CtrOk Try.prog x) (h : ∀ (a0 : (List DApart)) (a1 : Int) y, szC (.list TyApart) a0 a1 = some y → ∃ n, F_laws_szApartS n a0 a1 = some y) : CtrOk Try.prog c_laws_szApartS := by
  refine ctr_of_run (c := c_laws_szApartS) (by kernel_rfl) (by kernel_rfl : Try.prog.funcs[41]? = some Try.f41) (code := Try.f41.body.getD .skip) (by kernel_rfl) (by kernel_rfl) (by kernel_rfl) (A := A_laws_szApartS) (I := In_laws_szApartS) hcs ?_
  rintro ⟨a0, a1, u⟩ y hy
  exact h a0 a1 y hy

theorem hcs_laws_szApartS : ∀ x ∈ cs_laws_szApartS, CtrOk Try.prog x := (conOf_cons ok_laws_szApart conOf_nil)
theorem ok_laws_szApartS : CtrOk Try.prog c_laws_szApartS := mk_laws_szApartS hcs_laws_szApartS fun a0 a1 y hy => by
  obtain ⟨n, hn⟩ := szS_call (fun n xs s i => L_laws_szApartS_0_5_eq n xs s i) hy
  exact ⟨n, (F_laws_szApartS_eq n a0 a1).trans hn⟩
/-! ## laws.szRoleSet (15) -/
noncomputable def c_laws_szRoleSet : Ctr := ⟨15, [TyRoleSet, I64], [I64], fun x => szC TyRoleSet x.1 x.2.1⟩
def A_laws_szRoleSet : List (List Nat × Ann) := []
def In_laws_szRoleSet : List (List Nat × Nat) := []
noncomputable def cs_laws_szRoleSet : List Ctr := [c_laws_szRoleS, c_laws_szApartS, c_laws_szStringS]
noncomputable def F_laws_szRoleSet (n : Nat) (a0 : DRoleSet) (a1 : Int) : Option Int := run Try.prog A_laws_szRoleSet In_laws_szRoleSet (conOf cs_laws_szRoleSet) Try.f15 (Try.f15.body.getD .skip) (packT [I64]) n (argsV [TyRoleSet, I64] (a0, a1, ()))
theorem F_laws_szRoleSet_eq (n : Nat) (a0 : DRoleSet) (a1 : Int) : F_laws_szRoleSet n a0 a1 =
    Option.bind (szC (.list TyRole) a0.1 a1) fun (y1 : Int) =>
    bif decide (y1 < 0) then
      some (-1)
    else
      Option.bind (szC (.list TyApart) a0.2.1 y1) fun (y2 : Int) =>
      bif decide (y2 < 0) then
        some (-1)
      else
        Option.bind (szC (.list .str) a0.2.2 y2) fun (y3 : Int) =>
        bif decide (y3 < 0) then
          some (-1)
        else
          some y3 := by kernel_rfl
theorem mk_laws_szRoleSet (hcs : ∀ x ∈ cs_laws_szRoleSet, CtrOk Try.prog x) (h : ∀ (a0 : DRoleSet) (a1 : Int) y, szC TyRoleSet a0 a1 = some y → ∃ n, F_laws_szRoleSet n a0 a1 = some y) : CtrOk Try.prog c_laws_szRoleSet := by
  refine ctr_of_run (c := c_laws_szRoleSet) (by kernel_rfl) (by kernel_rfl : Try.prog.funcs[15]? = some Try.f15) (code := Try.f15.body.getD .skip) (by kernel_rfl) (by kernel_rfl) (by kernel_rfl) (A := A_laws_szRoleSet) (I := In_laws_szRoleSet) hcs ?_
  rintro ⟨a0, a1, u⟩ y hy
  exact h a0 a1 y hy

theorem hcs_laws_szRoleSet : ∀ x ∈ cs_laws_szRoleSet, CtrOk Try.prog x := (conOf_cons ok_laws_szRoleS (conOf_cons ok_laws_szApartS (conOf_cons ok_laws_szStringS conOf_nil)))
theorem ok_laws_szRoleSet : CtrOk Try.prog c_laws_szRoleSet := mk_laws_szRoleSet hcs_laws_szRoleSet fun a0 a1 y hy => by
  obtain ⟨hw, h0, h1, rfl⟩ := szC_inv hy
  have hw2 : wfD (.list TyRole) a0.1 ∧ wfD (.list TyApart) a0.2.1 ∧ wfD (.list .str) a0.2.2 := hw
  have hsz : Ty.size TyRoleSet a0 = Ty.size (.list TyRole) a0.1 + (Ty.size (.list TyApart) a0.2.1 + (Ty.size (.list .str) a0.2.2)) := rfl
  refine ⟨0, ?_⟩
  rw [F_laws_szRoleSet_eq, hsz]
  rw [szC_some hw2.1 (show 0 ≤ a1 by omega) (by omega)]
  simp only [Option.bind_some]
  rcases Int.lt_or_le (a1) ((Ty.size (.list TyRole) a0.1 : Nat) : Int) with h | h
  · rw [show lessZ (a1) (Ty.size (.list TyRole) a0.1) = -1 by unfold lessZ; rw [if_neg (by omega)]]; rw [decide_eq_true (show (-1 : Int) < 0 by omega)]; simp only [cond_true]; unfold lessZ; rw [if_neg (by omega)]
  rw [show lessZ (a1) (Ty.size (.list TyRole) a0.1) = (a1 - ((Ty.size (.list TyRole) a0.1 : Nat) : Int)) by unfold lessZ; rw [if_pos h]]; rw [decide_eq_false (show ¬ (a1 - ((Ty.size (.list TyRole) a0.1 : Nat) : Int)) < 0 by omega)]; simp only [cond_false]
  have h_0 := h; clear h
  rw [szC_some hw2.2.1 (show 0 ≤ (a1 - ((Ty.size (.list TyRole) a0.1 : Nat) : Int)) by omega) (by omega)]
  simp only [Option.bind_some]
  rcases Int.lt_or_le ((a1 - ((Ty.size (.list TyRole) a0.1 : Nat) : Int))) ((Ty.size (.list TyApart) a0.2.1 : Nat) : Int) with h | h
  · rw [show lessZ ((a1 - ((Ty.size (.list TyRole) a0.1 : Nat) : Int))) (Ty.size (.list TyApart) a0.2.1) = -1 by unfold lessZ; rw [if_neg (by omega)]]; rw [decide_eq_true (show (-1 : Int) < 0 by omega)]; simp only [cond_true]; unfold lessZ; rw [if_neg (by omega)]
  rw [show lessZ ((a1 - ((Ty.size (.list TyRole) a0.1 : Nat) : Int))) (Ty.size (.list TyApart) a0.2.1) = ((a1 - ((Ty.size (.list TyRole) a0.1 : Nat) : Int)) - ((Ty.size (.list TyApart) a0.2.1 : Nat) : Int)) by unfold lessZ; rw [if_pos h]]; rw [decide_eq_false (show ¬ ((a1 - ((Ty.size (.list TyRole) a0.1 : Nat) : Int)) - ((Ty.size (.list TyApart) a0.2.1 : Nat) : Int)) < 0 by omega)]; simp only [cond_false]
  have h_1 := h; clear h
  rw [szC_some hw2.2.2 (show 0 ≤ ((a1 - ((Ty.size (.list TyRole) a0.1 : Nat) : Int)) - ((Ty.size (.list TyApart) a0.2.1 : Nat) : Int)) by omega) (by omega)]
  simp only [Option.bind_some]
  rcases Int.lt_or_le (((a1 - ((Ty.size (.list TyRole) a0.1 : Nat) : Int)) - ((Ty.size (.list TyApart) a0.2.1 : Nat) : Int))) ((Ty.size (.list .str) a0.2.2 : Nat) : Int) with h | h
  · rw [show lessZ (((a1 - ((Ty.size (.list TyRole) a0.1 : Nat) : Int)) - ((Ty.size (.list TyApart) a0.2.1 : Nat) : Int))) (Ty.size (.list .str) a0.2.2) = -1 by unfold lessZ; rw [if_neg (by omega)]]; rw [decide_eq_true (show (-1 : Int) < 0 by omega)]; simp only [cond_true]; unfold lessZ; rw [if_neg (by omega)]
  rw [show lessZ (((a1 - ((Ty.size (.list TyRole) a0.1 : Nat) : Int)) - ((Ty.size (.list TyApart) a0.2.1 : Nat) : Int))) (Ty.size (.list .str) a0.2.2) = (((a1 - ((Ty.size (.list TyRole) a0.1 : Nat) : Int)) - ((Ty.size (.list TyApart) a0.2.1 : Nat) : Int)) - ((Ty.size (.list .str) a0.2.2 : Nat) : Int)) by unfold lessZ; rw [if_pos h]]; rw [decide_eq_false (show ¬ (((a1 - ((Ty.size (.list TyRole) a0.1 : Nat) : Int)) - ((Ty.size (.list TyApart) a0.2.1 : Nat) : Int)) - ((Ty.size (.list .str) a0.2.2 : Nat) : Int)) < 0 by omega)]; simp only [cond_false]
  have h_2 := h; clear h
  unfold lessZ; rw [if_pos (by omega)]; congr 1 <;> omega
/-! ## laws.eqStringS (25) -/
noncomputable def c_laws_eqStringS : Ctr := ⟨25, [(.list .str), (.list .str)], [.bool], fun x => eqC (.list .str) x.1 x.2.1⟩
def A_laws_eqStringS : List (List Nat × Ann) := [([0, 4], [.keep 0 0, .keep 0 1, .keep 0 5])]
def In_laws_eqStringS : List (List Nat × Nat) := []
noncomputable def cs_laws_eqStringS : List Ctr := []
noncomputable def F_laws_eqStringS (n : Nat) (a0 : (List (List Int))) (a1 : (List (List Int))) : Option Bool := run Try.prog A_laws_eqStringS In_laws_eqStringS (conOf cs_laws_eqStringS) Try.f25 (Try.f25.body.getD .skip) (packT [.bool]) n (argsV [(.list .str), (.list .str)] (a0, a1, ()))
noncomputable abbrev L_laws_eqStringS_0_4 (n : Nat) (x1 : (List (List Int))) (x2 : (List (List Int))) (x3 : Int) : Option Bool := lam Try.prog A_laws_eqStringS In_laws_eqStringS (conOf cs_laws_eqStringS) Try.f25 (Try.f25.body.getD .skip) (packT [.bool]) n [0, 4] [.d (.list .str) x1, .d (.list .str) x2, .d I64 x3]
theorem F_laws_eqStringS_eq (n : Nat) (a0 : (List (List Int))) (a1 : (List (List Int))) : F_laws_eqStringS n a0 a1 =
    bif !decide ((a0.length : Int) = (a1.length : Int)) then
      some false
    else
      L_laws_eqStringS_0_4 n a0 a1 0 := by kernel_rfl
theorem L_laws_eqStringS_0_4_eq (n : Nat) (x1 : (List (List Int))) (x2 : (List (List Int))) (x3 : Int) : L_laws_eqStringS_0_4 (n + 1) x1 x2 x3 =
    bif decide (x3 < (x1.length : Int)) then
      bif inB x3 x1.length then
        bif inB x3 x2.length then
          bif !decide (rd x1 x3 (Ty.dflt .str) = rd x2 x3 (Ty.dflt .str)) then
            some false
          else
            L_laws_eqStringS_0_4 n x1 x2 (IntKind.wrap .i64 (x3 + 1))
        else none
      else none
    else
      some true := by kernel_rfl
theorem mk_laws_eqStringS (hcs : ∀ x ∈ cs_laws_eqStringS, CtrOk Try.prog x) (h : ∀ (a0 : (List (List Int))) (a1 : (List (List Int))) y, eqC (.list .str) a0 a1 = some y → ∃ n, F_laws_eqStringS n a0 a1 = some y) : CtrOk Try.prog c_laws_eqStringS := by
  refine ctr_of_run (c := c_laws_eqStringS) (by kernel_rfl) (by kernel_rfl : Try.prog.funcs[25]? = some Try.f25) (code := Try.f25.body.getD .skip) (by kernel_rfl) (by kernel_rfl) (by kernel_rfl) (A := A_laws_eqStringS) (I := In_laws_eqStringS) hcs ?_
  rintro ⟨a0, a1, u⟩ y hy
  exact h a0 a1 y hy

theorem hcs_laws_eqStringS : ∀ x ∈ cs_laws_eqStringS, CtrOk Try.prog x := conOf_nil
theorem ok_laws_eqStringS : CtrOk Try.prog c_laws_eqStringS := mk_laws_eqStringS hcs_laws_eqStringS fun a0 a1 y hy => by
  obtain ⟨n, hn⟩ := eqS_ok (t := .str) (body := fun x y K => bif !decide (x = y) then some false else K ()) (fun x K h => by simp) (fun n xs ys i => L_laws_eqStringS_0_4_eq n xs ys i) hy
  exact ⟨n, (F_laws_eqStringS_eq n a0 a1).trans hn⟩
/-! ## laws.eqRole (115) -/
noncomputable def c_laws_eqRole : Ctr := ⟨115, [TyRole, TyRole], [.bool], fun x => eqC TyRole x.1 x.2.1⟩
def A_laws_eqRole : List (List Nat × Ann) := []
def In_laws_eqRole : List (List Nat × Nat) := []
noncomputable def cs_laws_eqRole : List Ctr := [c_laws_eqStringS]
noncomputable def F_laws_eqRole (n : Nat) (a0 : DRole) (a1 : DRole) : Option Bool := run Try.prog A_laws_eqRole In_laws_eqRole (conOf cs_laws_eqRole) Try.f115 (Try.f115.body.getD .skip) (packT [.bool]) n (argsV [TyRole, TyRole] (a0, a1, ()))
theorem F_laws_eqRole_eq (n : Nat) (a0 : DRole) (a1 : DRole) : F_laws_eqRole n a0 a1 =
    bif !decide (a0.1 = a1.1) then
      some false
    else
      Option.bind (eqC (.list .str) a0.2.1 a1.2.1) fun (y1 : Bool) =>
      bif !(y1) then
        some false
      else
        Option.bind (eqC (.list .str) a0.2.2 a1.2.2) fun (y2 : Bool) =>
        bif !(y2) then
          some false
        else
          some true := by kernel_rfl
theorem mk_laws_eqRole (hcs : ∀ x ∈ cs_laws_eqRole, CtrOk Try.prog x) (h : ∀ (a0 : DRole) (a1 : DRole) y, eqC TyRole a0 a1 = some y → ∃ n, F_laws_eqRole n a0 a1 = some y) : CtrOk Try.prog c_laws_eqRole := by
  refine ctr_of_run (c := c_laws_eqRole) (by kernel_rfl) (by kernel_rfl : Try.prog.funcs[115]? = some Try.f115) (code := Try.f115.body.getD .skip) (by kernel_rfl) (by kernel_rfl) (by kernel_rfl) (A := A_laws_eqRole) (I := In_laws_eqRole) hcs ?_
  rintro ⟨a0, a1, u⟩ y hy
  exact h a0 a1 y hy

theorem hcs_laws_eqRole : ∀ x ∈ cs_laws_eqRole, CtrOk Try.prog x := (conOf_cons ok_laws_eqStringS conOf_nil)
theorem ok_laws_eqRole : CtrOk Try.prog c_laws_eqRole := mk_laws_eqRole hcs_laws_eqRole fun a0 a1 y hy => by
  obtain ⟨rfl, hw, rfl⟩ := eqC_inv hy
  have hw2 : wfD .str a0.1 ∧ wfD (.list .str) a0.2.1 ∧ wfD (.list .str) a0.2.2 := hw
  refine ⟨0, ?_⟩
  rw [F_laws_eqRole_eq]
  simp [eqC_some hw2.2.1, eqC_some hw2.2.2]
/-! ## laws.eqRoleS (64) -/
noncomputable def c_laws_eqRoleS : Ctr := ⟨64, [(.list TyRole), (.list TyRole)], [.bool], fun x => eqC (.list TyRole) x.1 x.2.1⟩
def A_laws_eqRoleS : List (List Nat × Ann) := [([0, 4], [.keep 0 0, .keep 0 1, .keep 0 5])]
def In_laws_eqRoleS : List (List Nat × Nat) := []
noncomputable def cs_laws_eqRoleS : List Ctr := [c_laws_eqRole]
noncomputable def F_laws_eqRoleS (n : Nat) (a0 : (List DRole)) (a1 : (List DRole)) : Option Bool := run Try.prog A_laws_eqRoleS In_laws_eqRoleS (conOf cs_laws_eqRoleS) Try.f64 (Try.f64.body.getD .skip) (packT [.bool]) n (argsV [(.list TyRole), (.list TyRole)] (a0, a1, ()))
noncomputable abbrev L_laws_eqRoleS_0_4 (n : Nat) (x1 : (List DRole)) (x2 : (List DRole)) (x3 : Int) : Option Bool := lam Try.prog A_laws_eqRoleS In_laws_eqRoleS (conOf cs_laws_eqRoleS) Try.f64 (Try.f64.body.getD .skip) (packT [.bool]) n [0, 4] [.d (.list TyRole) x1, .d (.list TyRole) x2, .d I64 x3]
theorem F_laws_eqRoleS_eq (n : Nat) (a0 : (List DRole)) (a1 : (List DRole)) : F_laws_eqRoleS n a0 a1 =
    bif !decide ((a0.length : Int) = (a1.length : Int)) then
      some false
    else
      L_laws_eqRoleS_0_4 n a0 a1 0 := by kernel_rfl
theorem L_laws_eqRoleS_0_4_eq (n : Nat) (x1 : (List DRole)) (x2 : (List DRole)) (x3 : Int) : L_laws_eqRoleS_0_4 (n + 1) x1 x2 x3 =
    bif decide (x3 < (x1.length : Int)) then
      bif inB x3 x1.length then
        bif inB x3 x2.length then
          Option.bind (eqC TyRole (rd x1 x3 (Ty.dflt TyRole)) (rd x2 x3 (Ty.dflt TyRole))) fun (y1 : Bool) =>
          bif !(y1) then
            some false
          else
            L_laws_eqRoleS_0_4 n x1 x2 (IntKind.wrap .i64 (x3 + 1))
        else none
      else none
    else
      some true := by kernel_rfl
theorem mk_laws_eqRoleS (hcs : ∀ x ∈ cs_laws_eqRoleS, CtrOk Try.prog x) (h : ∀ (a0 : (List DRole)) (a1 : (List DRole)) y, eqC (.list TyRole) a0 a1 = some y → ∃ n, F_laws_eqRoleS n a0 a1 = some y) : CtrOk Try.prog c_laws_eqRoleS := by
  refine ctr_of_run (c := c_laws_eqRoleS) (by kernel_rfl) (by kernel_rfl : Try.prog.funcs[64]? = some Try.f64) (code := Try.f64.body.getD .skip) (by kernel_rfl) (by kernel_rfl) (by kernel_rfl) (A := A_laws_eqRoleS) (I := In_laws_eqRoleS) hcs ?_
  rintro ⟨a0, a1, u⟩ y hy
  exact h a0 a1 y hy

theorem hcs_laws_eqRoleS : ∀ x ∈ cs_laws_eqRoleS, CtrOk Try.prog x := (conOf_cons ok_laws_eqRole conOf_nil)
theorem ok_laws_eqRoleS : CtrOk Try.prog c_laws_eqRoleS := mk_laws_eqRoleS hcs_laws_eqRoleS fun a0 a1 y hy => by
  obtain ⟨n, hn⟩ := eqS_ok (t := TyRole) (body := fun x y K => Option.bind (eqC TyRole x y) fun b => bif !b then some false else K ()) (fun x K h => by simp only [eqC_some h, Option.bind_some, Bool.not_true, cond_false]) (fun n xs ys i => L_laws_eqRoleS_0_4_eq n xs ys i) hy
  exact ⟨n, (F_laws_eqRoleS_eq n a0 a1).trans hn⟩
/-! ## laws.eqApart (116) -/
noncomputable def c_laws_eqApart : Ctr := ⟨116, [TyApart, TyApart], [.bool], fun x => eqC TyApart x.1 x.2.1⟩
def A_laws_eqApart : List (List Nat × Ann) := []
def In_laws_eqApart : List (List Nat × Nat) := []
noncomputable def cs_laws_eqApart : List Ctr := [c_laws_eqStringS]
noncomputable def F_laws_eqApart (n : Nat) (a0 : DApart) (a1 : DApart) : Option Bool := run Try.prog A_laws_eqApart In_laws_eqApart (conOf cs_laws_eqApart) Try.f116 (Try.f116.body.getD .skip) (packT [.bool]) n (argsV [TyApart, TyApart] (a0, a1, ()))
theorem F_laws_eqApart_eq (n : Nat) (a0 : DApart) (a1 : DApart) : F_laws_eqApart n a0 a1 =
    Option.bind (eqC (.list .str) a0.1 a1.1) fun (y1 : Bool) =>
    bif !(y1) then
      some false
    else
      bif !decide (a0.2.1 = a1.2.1) then
        some false
      else
        bif a0.2.2 != a1.2.2 then
          some false
        else
          some true := by kernel_rfl
theorem mk_laws_eqApart (hcs : ∀ x ∈ cs_laws_eqApart, CtrOk Try.prog x) (h : ∀ (a0 : DApart) (a1 : DApart) y, eqC TyApart a0 a1 = some y → ∃ n, F_laws_eqApart n a0 a1 = some y) : CtrOk Try.prog c_laws_eqApart := by
  refine ctr_of_run (c := c_laws_eqApart) (by kernel_rfl) (by kernel_rfl : Try.prog.funcs[116]? = some Try.f116) (code := Try.f116.body.getD .skip) (by kernel_rfl) (by kernel_rfl) (by kernel_rfl) (A := A_laws_eqApart) (I := In_laws_eqApart) hcs ?_
  rintro ⟨a0, a1, u⟩ y hy
  exact h a0 a1 y hy

theorem hcs_laws_eqApart : ∀ x ∈ cs_laws_eqApart, CtrOk Try.prog x := (conOf_cons ok_laws_eqStringS conOf_nil)
theorem ok_laws_eqApart : CtrOk Try.prog c_laws_eqApart := mk_laws_eqApart hcs_laws_eqApart fun a0 a1 y hy => by
  obtain ⟨rfl, hw, rfl⟩ := eqC_inv hy
  have hw2 : wfD (.list .str) a0.1 ∧ wfD I64 a0.2.1 ∧ wfD .bool a0.2.2 := hw
  refine ⟨0, ?_⟩
  rw [F_laws_eqApart_eq]
  simp [eqC_some hw2.1]
/-! ## laws.eqApartS (65) -/
noncomputable def c_laws_eqApartS : Ctr := ⟨65, [(.list TyApart), (.list TyApart)], [.bool], fun x => eqC (.list TyApart) x.1 x.2.1⟩
def A_laws_eqApartS : List (List Nat × Ann) := [([0, 4], [.keep 0 0, .keep 0 1, .keep 0 5])]
def In_laws_eqApartS : List (List Nat × Nat) := []
noncomputable def cs_laws_eqApartS : List Ctr := [c_laws_eqApart]
noncomputable def F_laws_eqApartS (n : Nat) (a0 : (List DApart)) (a1 : (List DApart)) : Option Bool := run Try.prog A_laws_eqApartS In_laws_eqApartS (conOf cs_laws_eqApartS) Try.f65 (Try.f65.body.getD .skip) (packT [.bool]) n (argsV [(.list TyApart), (.list TyApart)] (a0, a1, ()))
noncomputable abbrev L_laws_eqApartS_0_4 (n : Nat) (x1 : (List DApart)) (x2 : (List DApart)) (x3 : Int) : Option Bool := lam Try.prog A_laws_eqApartS In_laws_eqApartS (conOf cs_laws_eqApartS) Try.f65 (Try.f65.body.getD .skip) (packT [.bool]) n [0, 4] [.d (.list TyApart) x1, .d (.list TyApart) x2, .d I64 x3]
theorem F_laws_eqApartS_eq (n : Nat) (a0 : (List DApart)) (a1 : (List DApart)) : F_laws_eqApartS n a0 a1 =
    bif !decide ((a0.length : Int) = (a1.length : Int)) then
      some false
    else
      L_laws_eqApartS_0_4 n a0 a1 0 := by kernel_rfl
theorem L_laws_eqApartS_0_4_eq (n : Nat) (x1 : (List DApart)) (x2 : (List DApart)) (x3 : Int) : L_laws_eqApartS_0_4 (n + 1) x1 x2 x3 =
    bif decide (x3 < (x1.length : Int)) then
      bif inB x3 x1.length then
        bif inB x3 x2.length then
          Option.bind (eqC TyApart (rd x1 x3 (Ty.dflt TyApart)) (rd x2 x3 (Ty.dflt TyApart))) fun (y1 : Bool) =>
          bif !(y1) then
            some false
          else
            L_laws_eqApartS_0_4 n x1 x2 (IntKind.wrap .i64 (x3 + 1))
        else none
      else none
    else
      some true := by kernel_rfl
theorem mk_laws_eqApartS (hcs : ∀ x ∈ cs_laws_eqApartS, CtrOk Try.prog x) (h : ∀ (a0 : (List DApart)) (a1 : (List DApart)) y, eqC (.list TyApart) a0 a1 = some y → ∃ n, F_laws_eqApartS n a0 a1 = some y) : CtrOk Try.prog c_laws_eqApartS := by
  refine ctr_of_run (c := c_laws_eqApartS) (by kernel_rfl) (by kernel_rfl : Try.prog.funcs[65]? = some Try.f65) (code := Try.f65.body.getD .skip) (by kernel_rfl) (by kernel_rfl) (by kernel_rfl) (A := A_laws_eqApartS) (I := In_laws_eqApartS) hcs ?_
  rintro ⟨a0, a1, u⟩ y hy
  exact h a0 a1 y hy

theorem hcs_laws_eqApartS : ∀ x ∈ cs_laws_eqApartS, CtrOk Try.prog x := (conOf_cons ok_laws_eqApart conOf_nil)
theorem ok_laws_eqApartS : CtrOk Try.prog c_laws_eqApartS := mk_laws_eqApartS hcs_laws_eqApartS fun a0 a1 y hy => by
  obtain ⟨n, hn⟩ := eqS_ok (t := TyApart) (body := fun x y K => Option.bind (eqC TyApart x y) fun b => bif !b then some false else K ()) (fun x K h => by simp only [eqC_some h, Option.bind_some, Bool.not_true, cond_false]) (fun n xs ys i => L_laws_eqApartS_0_4_eq n xs ys i) hy
  exact ⟨n, (F_laws_eqApartS_eq n a0 a1).trans hn⟩
/-! ## laws.eqRoleSet (21) -/
noncomputable def c_laws_eqRoleSet : Ctr := ⟨21, [TyRoleSet, TyRoleSet], [.bool], fun x => eqC TyRoleSet x.1 x.2.1⟩
def A_laws_eqRoleSet : List (List Nat × Ann) := []
def In_laws_eqRoleSet : List (List Nat × Nat) := []
noncomputable def cs_laws_eqRoleSet : List Ctr := [c_laws_eqRoleS, c_laws_eqApartS, c_laws_eqStringS]
noncomputable def F_laws_eqRoleSet (n : Nat) (a0 : DRoleSet) (a1 : DRoleSet) : Option Bool := run Try.prog A_laws_eqRoleSet In_laws_eqRoleSet (conOf cs_laws_eqRoleSet) Try.f21 (Try.f21.body.getD .skip) (packT [.bool]) n (argsV [TyRoleSet, TyRoleSet] (a0, a1, ()))
theorem F_laws_eqRoleSet_eq (n : Nat) (a0 : DRoleSet) (a1 : DRoleSet) : F_laws_eqRoleSet n a0 a1 =
    Option.bind (eqC (.list TyRole) a0.1 a1.1) fun (y1 : Bool) =>
    bif !(y1) then
      some false
    else
      Option.bind (eqC (.list TyApart) a0.2.1 a1.2.1) fun (y2 : Bool) =>
      bif !(y2) then
        some false
      else
        Option.bind (eqC (.list .str) a0.2.2 a1.2.2) fun (y3 : Bool) =>
        bif !(y3) then
          some false
        else
          some true := by kernel_rfl
theorem mk_laws_eqRoleSet (hcs : ∀ x ∈ cs_laws_eqRoleSet, CtrOk Try.prog x) (h : ∀ (a0 : DRoleSet) (a1 : DRoleSet) y, eqC TyRoleSet a0 a1 = some y → ∃ n, F_laws_eqRoleSet n a0 a1 = some y) : CtrOk Try.prog c_laws_eqRoleSet := by
  refine ctr_of_run (c := c_laws_eqRoleSet) (by kernel_rfl) (by kernel_rfl : Try.prog.funcs[21]? = some Try.f21) (code := Try.f21.body.getD .skip) (by kernel_rfl) (by kernel_rfl) (by kernel_rfl) (A := A_laws_eqRoleSet) (I := In_laws_eqRoleSet) hcs ?_
  rintro ⟨a0, a1, u⟩ y hy
  exact h a0 a1 y hy

theorem hcs_laws_eqRoleSet : ∀ x ∈ cs_laws_eqRoleSet, CtrOk Try.prog x := (conOf_cons ok_laws_eqRoleS (conOf_cons ok_laws_eqApartS (conOf_cons ok_laws_eqStringS conOf_nil)))
theorem ok_laws_eqRoleSet : CtrOk Try.prog c_laws_eqRoleSet := mk_laws_eqRoleSet hcs_laws_eqRoleSet fun a0 a1 y hy => by
  obtain ⟨rfl, hw, rfl⟩ := eqC_inv hy
  have hw2 : wfD (.list TyRole) a0.1 ∧ wfD (.list TyApart) a0.2.1 ∧ wfD (.list .str) a0.2.2 := hw
  refine ⟨0, ?_⟩
  rw [F_laws_eqRoleSet_eq]
  simp [eqC_some hw2.1, eqC_some hw2.2.1, eqC_some hw2.2.2]
/-! ## laws.FnExactJuniorsOf (5) -/
noncomputable def P_laws_FnExactJuniorsOf_1_18 (x1 : (List Int)) (x2 : (List (List Int))) (x3 : (List (List Int))) (x4 : DRoleSet) : Option Bool :=
  Option.bind (markC (.list .str) x3 1) fun (y11 : (Int × (List (List Int)))) =>
  Option.bind (P_laws_heldStringS y11.2 1) fun (y12 : Int) =>
  bif decide (y12 < 0) then
    some false
  else
    bif !decide (y12 = y11.1) then
      some false
    else
      Option.bind (toC TyRoleSet x4) fun (y13 : DRoleSet) =>
      Option.bind (P_impl_JuniorsOf y13 x1) fun (y14 : (List (List Int))) =>
      Option.bind (eqC (.list .str) y14 x2) fun (y15 : Bool) =>
      bif !(y15) then
        some false
      else
        Option.bind (P_laws_heldStringS y11.2 1) fun (y16 : Int) =>
        bif decide (y16 < 0) then
          some false
        else
          bif !decide (y16 = y11.1) then
            some false
          else
            some true
noncomputable def P_laws_FnExactJuniorsOf (a0 : DRoleSet) (a1 : (List Int)) : Option Bool :=
  bif decide ((1048576 : Int) < (a1.length : Int)) then
    some true
  else
    Option.bind (szC TyRoleSet a0 1048576) fun (y1 : Int) =>
    bif decide (y1 < 0) then
      some true
    else
      Option.bind (toC TyRoleSet a0) fun (y2 : DRoleSet) =>
      Option.bind (P_spec_JuniorsOf y2 a1) fun (y3 : (List (List Int))) =>
      Option.bind (toC TyRoleSet a0) fun (y4 : DRoleSet) =>
      Option.bind (P_impl_JuniorsOf y4 a1) fun (y5 : (List (List Int))) =>
      Option.bind (eqC (.list .str) y5 y3) fun (y6 : Bool) =>
      bif !(y6) then
        some false
      else
        Option.bind (toC TyRoleSet a0) fun (y7 : DRoleSet) =>
        Option.bind (eqC TyRoleSet y4 y7) fun (y8 : Bool) =>
        bif !(y8) then
          some false
        else
          Option.bind (markC TyRoleSet y4 1) fun (y9 : (Int × DRoleSet)) =>
          bif decide (y9.1 < 0) then
            some false
          else
            Option.bind (eqC (.list .str) y5 y3) fun (y10 : Bool) =>
            bif !(y10) then
              some false
            else
              P_laws_FnExactJuniorsOf_1_18 a1 y3 y5 a0
def A_laws_FnExactJuniorsOf : List (List Nat × Ann) := [([1, 18], [.keep 0 1, .keep 0 2, .keep 0 6, .drb 0 8 .str, .boxd 0 2 TyRoleSet])]
def In_laws_FnExactJuniorsOf : List (List Nat × Nat) := [([8001], 2000018), ([9002], 2000024), ([15002], 3000026), ([19002], 3000027)]
noncomputable def cs_laws_FnExactJuniorsOf : List Ctr := [c_laws_szRoleSet, c_laws_toRoleSet, c_spec_JuniorsOf, cd_laws_toRoleSet, cd_impl_JuniorsOf, c_laws_eqStringS, c_laws_eqRoleSet, ch_laws_markRoleSet, ch_laws_markStringS, c_laws_heldStringS, c_impl_JuniorsOf]
noncomputable def F_laws_FnExactJuniorsOf (n : Nat) (a0 : DRoleSet) (a1 : (List Int)) : Option Bool := run Try.prog A_laws_FnExactJuniorsOf In_laws_FnExactJuniorsOf (conOf cs_laws_FnExactJuniorsOf) Try.f5 (Try.f5.body.getD .skip) (packT [.bool]) n (argsV [TyRoleSet, .str] (a0, a1, ()))
noncomputable abbrev L_laws_FnExactJuniorsOf_1_18 (n : Nat) (x1 : (List Int)) (x2 : (List (List Int))) (x3 : (List (List Int))) (x4 : DRoleSet) : Option Bool := lam Try.prog A_laws_FnExactJuniorsOf In_laws_FnExactJuniorsOf (conOf cs_laws_FnExactJuniorsOf) Try.f5 (Try.f5.body.getD .skip) (packT [.bool]) n [1, 18] [.d .str x1, .ptr 0 2 0, .d (.list .str) x2, .d (.list .str) x3, .agg (explode TyRoleSet x4)]
theorem F_laws_FnExactJuniorsOf_eq (n : Nat) (a0 : DRoleSet) (a1 : (List Int)) : F_laws_FnExactJuniorsOf n a0 a1 =
    bif decide ((1048576 : Int) < (a1.length : Int)) then
      some true
    else
      Option.bind (szC TyRoleSet a0 1048576) fun (y1 : Int) =>
      bif decide (y1 < 0) then
        some true
      else
        Option.bind (toC TyRoleSet a0) fun (y2 : DRoleSet) =>
        Option.bind (P_spec_JuniorsOf y2 a1) fun (y3 : (List (List Int))) =>
        Option.bind (toC TyRoleSet a0) fun (y4 : DRoleSet) =>
        Option.bind (P_impl_JuniorsOf y4 a1) fun (y5 : (List (List Int))) =>
        Option.bind (eqC (.list .str) y5 y3) fun (y6 : Bool) =>
        bif !(y6) then
          some false
        else
          Option.bind (toC TyRoleSet a0) fun (y7 : DRoleSet) =>
          Option.bind (eqC TyRoleSet y4 y7) fun (y8 : Bool) =>
          bif !(y8) then
            some false
          else
            Option.bind (markC TyRoleSet y4 1) fun (y9 : (Int × DRoleSet)) =>
            bif decide (y9.1 < 0) then
              some false
            else
              Option.bind (eqC (.list .str) y5 y3) fun (y10 : Bool) =>
              bif !(y10) then
                some false
              else
                L_laws_FnExactJuniorsOf_1_18 n a1 y3 y5 a0 := by kernel_rfl
theorem L_laws_FnExactJuniorsOf_1_18_eq (n : Nat) (x1 : (List Int)) (x2 : (List (List Int))) (x3 : (List (List Int))) (x4 : DRoleSet) : L_laws_FnExactJuniorsOf_1_18 (n + 1) x1 x2 x3 x4 =
    Option.bind (markC (.list .str) x3 1) fun (y11 : (Int × (List (List Int)))) =>
    Option.bind (P_laws_heldStringS y11.2 1) fun (y12 : Int) =>
    bif decide (y12 < 0) then
      some false
    else
      bif !decide (y12 = y11.1) then
        some false
      else
        Option.bind (toC TyRoleSet x4) fun (y13 : DRoleSet) =>
        Option.bind (P_impl_JuniorsOf y13 x1) fun (y14 : (List (List Int))) =>
        Option.bind (eqC (.list .str) y14 x2) fun (y15 : Bool) =>
        bif !(y15) then
          some false
        else
          Option.bind (P_laws_heldStringS y11.2 1) fun (y16 : Int) =>
          bif decide (y16 < 0) then
            some false
          else
            bif !decide (y16 = y11.1) then
              some false
            else
              some true := by kernel_rfl
theorem S_laws_FnExactJuniorsOf_1_18 {x1 : (List Int)} {x2 : (List (List Int))} {x3 : (List (List Int))} {x4 : DRoleSet} {r : Bool} (h : P_laws_FnExactJuniorsOf_1_18 x1 x2 x3 x4 = some r) : Ev (fun n => L_laws_FnExactJuniorsOf_1_18 n x1 x2 x3 x4) r := by
  rw [P_laws_FnExactJuniorsOf_1_18] at h
  refine Ev.step ?_ (fun n => L_laws_FnExactJuniorsOf_1_18_eq n x1 x2 x3 x4)
  exact (Ev.ofBind h fun y11 h => (Ev.ofBind h fun y12 h => (Ev.ofBif h (fun h => (Ev.ofSome h)) (fun h => (Ev.ofBif h (fun h => (Ev.ofSome h)) (fun h => (Ev.ofBind h fun y13 h => (Ev.ofBind h fun y14 h => (Ev.ofBind h fun y15 h => (Ev.ofBif h (fun h => (Ev.ofSome h)) (fun h => (Ev.ofBind h fun y16 h => (Ev.ofBif h (fun h => (Ev.ofSome h)) (fun h => (Ev.ofBif h (fun h => (Ev.ofSome h)) (fun h => (Ev.ofSome h)))))))))))))))))
theorem S_laws_FnExactJuniorsOf (a0 : DRoleSet) (a1 : (List Int)) {r : Bool} (h : P_laws_FnExactJuniorsOf a0 a1 = some r) : Ev (fun n => F_laws_FnExactJuniorsOf n a0 a1) r := by
  rw [P_laws_FnExactJuniorsOf] at h
  refine Ev.of_eq ?_ (fun n => F_laws_FnExactJuniorsOf_eq n a0 a1)
  exact (Ev.ofBif h (fun h => (Ev.ofSome h)) (fun h => (Ev.ofBind h fun y1 h => (Ev.ofBif h (fun h => (Ev.ofSome h)) (fun h => (Ev.ofBind h fun y2 h => (Ev.ofBind h fun y3 h => (Ev.ofBind h fun y4 h => (Ev.ofBind h fun y5 h => (Ev.ofBind h fun y6 h => (Ev.ofBif h (fun h => (Ev.ofSome h)) (fun h => (Ev.ofBind h fun y7 h => (Ev.ofBind h fun y8 h => (Ev.ofBif h (fun h => (Ev.ofSome h)) (fun h => (Ev.ofBind h fun y9 h => (Ev.ofBif h (fun h => (Ev.ofSome h)) (fun h => (Ev.ofBind h fun y10 h => (Ev.ofBif h (fun h => (Ev.ofSome h)) (fun h => (S_laws_FnExactJuniorsOf_1_18 h)))))))))))))))))))))))

end Go.Ab
