/- generated -/
import Derived.Test.YtlhbebagmkeghaaAb23
import Derived.Test.YtlhbebagmkeghaaProg
import Derived.KernelRfl
namespace Go.Ab
open Go.Proofs
set_option maxRecDepth 20000
abbrev I64 : Ty := .int .i64
abbrev U8 : Ty := .int .u8
abbrev TyboundsError : Ty := (.pair I64 (.pair I64 (.pair .bool U8)))
abbrev DboundsError : Type := (Int × (Int × (Bool × Int)))
abbrev TyerrorAddressString : Ty := (.pair .str (.int .u64))
abbrev DerrorAddressString : Type := ((List Int) × Int)
abbrev TyAtom : Ty := (.pair I64 (.pair I64 (.pair .str .str)))
abbrev DAtom : Type := (Int × (Int × ((List Int) × (List Int))))
abbrev TyValue : Ty := (.pair I64 (.pair TyAtom (.pair (.list TyAtom) (.list .str))))
abbrev DValue : Type := (Int × (DAtom × ((List DAtom) × (List (List Int)))))
abbrev TyThing : Ty := (.pair TyAtom (.pair (.list TyAtom) (.pair (.list .str) (.list TyValue))))
abbrev DThing : Type := (DAtom × ((List DAtom) × ((List (List Int)) × (List DValue))))
abbrev TyHead : Ty := (.pair I64 (.pair TyAtom .str))
abbrev DHead : Type := (Int × (DAtom × (List Int)))
abbrev TyRole : Ty := (.pair .str (.pair (.list .str) (.list .str)))
abbrev DRole : Type := ((List Int) × ((List (List Int)) × (List (List Int))))
abbrev TyApart : Ty := (.pair (.list .str) (.pair I64 .bool))
abbrev DApart : Type := ((List (List Int)) × (Int × Bool))
abbrev TyRoleSet : Ty := (.pair (.list TyRole) (.pair (.list TyApart) (.list .str)))
abbrev DRoleSet : Type := ((List DRole) × ((List DApart) × (List (List Int))))
abbrev TyRoleGrant : Ty := (.pair .str (.pair .str (.pair .str (.pair I64 (.pair I64 I64)))))
abbrev DRoleGrant : Type := ((List Int) × ((List Int) × ((List Int) × (Int × (Int × Int)))))
abbrev TyRoleSession : Ty := (.pair .str (.pair .str (.pair (.list .str) (.pair (.list TyRoleGrant) .bool))))
abbrev DRoleSession : Type := ((List Int) × ((List Int) × ((List (List Int)) × ((List DRoleGrant) × Bool))))
abbrev TyRoleState : Ty := (.pair (.list I64) (.pair (.list TyRoleGrant) (.pair (.list TyRoleSession) I64)))
abbrev DRoleState : Type := ((List Int) × ((List DRoleGrant) × ((List DRoleSession) × Int)))
/-! ## spec.l15Role (69) -/
noncomputable def P_spec_l15Role_0_2 (x1 : (List Int)) : List DRole → Option (DRole × Bool)
  | [] =>
      some ((([] : List Int), [], []), false)
  | e :: rest =>
      bif decide ((e).1 = x1) then
        some ((e), true)
      else
        P_spec_l15Role_0_2 x1 rest
noncomputable def P_spec_l15Role (a0 : DRoleSet) (a1 : (List Int)) : Option (DRole × Bool) :=
  lenOk a0.1 (P_spec_l15Role_0_2 a1 a0.1)
noncomputable def c_spec_l15Role : Ctr := ⟨69, [TyRoleSet, .str], [TyRole, .bool], fun x => P_spec_l15Role x.1 x.2.1⟩
def A_spec_l15Role : List (List Nat × Ann) := [([0, 2], [.keep 0 1, .keep 0 4, .keep 0 9, .keep 0 10, .keep 0 11, .boxd 0 4 TyRole])]
def In_spec_l15Role : List (List Nat × Nat) := []
noncomputable def cs_spec_l15Role : List Ctr := []
noncomputable def F_spec_l15Role (n : Nat) (a0 : DRoleSet) (a1 : (List Int)) : Option (DRole × Bool) := run Try.prog A_spec_l15Role In_spec_l15Role (conOf cs_spec_l15Role) Try.f69 (Try.f69.body.getD .skip) (packT [TyRole, .bool]) n (argsV [TyRoleSet, .str] (a0, a1, ()))
noncomputable abbrev L_spec_l15Role_0_2 (n : Nat) (x1 : (List Int)) (x2 : (List DRole)) (x3 : Int) (x4 : Int) (x5 : DRole) : Option (DRole × Bool) := lam Try.prog A_spec_l15Role In_spec_l15Role (conOf cs_spec_l15Role) Try.f69 (Try.f69.body.getD .skip) (packT [TyRole, .bool]) n [0, 2] [.d .str x1, .ptr 0 4 0, .d (.list TyRole) x2, .d I64 x3, .d I64 x4, .agg (explode TyRole x5)]
theorem F_spec_l15Role_eq (n : Nat) (a0 : DRoleSet) (a1 : (List Int)) : F_spec_l15Role n a0 a1 =
    L_spec_l15Role_0_2 n a1 a0.1 (a0.1.length : Int) 0 (([] : List Int), [], []) := by kernel_rfl
theorem L_spec_l15Role_0_2_eq (n : Nat) (x1 : (List Int)) (x2 : (List DRole)) (x3 : Int) (x4 : Int) (x5 : DRole) : L_spec_l15Role_0_2 (n + 1) x1 x2 x3 x4 x5 =
    bif decide (x4 < x3) then
      bif inB x4 x2.length then
        bif decide ((rd x2 x4 (Ty.dflt TyRole)).1 = x1) then
          some ((rd x2 x4 (Ty.dflt TyRole)), true)
        else
          L_spec_l15Role_0_2 n x1 x2 x3 (IntKind.wrap .i64 (x4 + 1)) x5
      else none
    else
      some ((([] : List Int), [], []), false) := by kernel_rfl
theorem S_spec_l15Role_0_2 {x1 : (List Int)} {x2 : (List DRole)} {x5 : DRole} (hl : x2.length ≤ maxLen) : ∀ (rest : List DRole) (k : Nat) (r : (DRole × Bool)), rest = x2.drop k → P_spec_l15Role_0_2 x1 rest = some r → Ev (fun n => L_spec_l15Role_0_2 n x1 x2 (x2.length : Int) (k : Int) x5) r := by
  intro rest
  induction rest with
  | nil =>
    intro k r hr h
    have hk := drop_nil hr
    rw [P_spec_l15Role_0_2] at h
    refine Ev.step ?_ (fun n => L_spec_l15Role_0_2_eq n x1 x2 (x2.length : Int) (k : Int) x5)
    rw [show decide ((k : Int) < (x2.length : Int)) = false from decide_eq_false (by omega)]
    exact Ev.neg rfl (Ev.ofSome h)
  | cons e rest ih =>
    intro k r hr h
    obtain ⟨hk, hx, hr2⟩ := drop_cons (d := (Ty.dflt TyRole)) hr
    have hw := wrap_succ hl hk
    have ih2 : ∀ (r : (DRole × Bool)), P_spec_l15Role_0_2 x1 rest = some r → Ev (fun n => L_spec_l15Role_0_2 n x1 x2 (x2.length : Int) (IntKind.wrap .i64 ((k : Int) + 1)) x5) r := by
      intro r h; rw [hw]; exact ih (k + 1) r hr2 h
    rw [P_spec_l15Role_0_2] at h
    refine Ev.step ?_ (fun n => L_spec_l15Role_0_2_eq n x1 x2 (x2.length : Int) (k : Int) x5)
    rw [show decide ((k : Int) < (x2.length : Int)) = true from decide_eq_true (by omega), inB_nat2 hk, hx]
    exact Ev.pos rfl (Ev.pos rfl (Ev.ofBif h (fun h => (Ev.ofSome h)) (fun h => (ih2  _ h))))
theorem S_spec_l15Role (a0 : DRoleSet) (a1 : (List Int)) {r : (DRole × Bool)} (h : P_spec_l15Role a0 a1 = some r) : Ev (fun n => F_spec_l15Role n a0 a1) r := by
  rw [P_spec_l15Role] at h
  refine Ev.of_eq ?_ (fun n => F_spec_l15Role_eq n a0 a1)
  exact (Ev.ofLen h fun hl h => S_spec_l15Role_0_2 hl _ (0 : Nat) _ rfl h)
theorem hcs_spec_l15Role : ∀ x ∈ cs_spec_l15Role, CtrOk Try.prog x := conOf_nil
theorem ok_spec_l15Role : CtrOk Try.prog c_spec_l15Role := by
  refine ctr_of_run (c := c_spec_l15Role) (by kernel_rfl) (by kernel_rfl : Try.prog.funcs[69]? = some Try.f69) (code := Try.f69.body.getD .skip) (by kernel_rfl) (by kernel_rfl) (by kernel_rfl) (A := A_spec_l15Role) (I := In_spec_l15Role) hcs_spec_l15Role ?_
  rintro ⟨a0, a1, u⟩ y hy
  exact (S_spec_l15Role a0 a1 hy).get

/-! ## spec.l1CmpNum (130) -/
def T_spec_l1CmpNum (a0 : Int) (a1 : Int) : Int :=
  bif decide (a0 < a1) then
    (-1)
  else
    bif decide (a1 < a0) then
      1
    else
      0
noncomputable def c_spec_l1CmpNum : Ctr := ⟨130, [I64, I64], [I64], fun x => some (T_spec_l1CmpNum x.1 x.2.1)⟩
def A_spec_l1CmpNum : List (List Nat × Ann) := []
def In_spec_l1CmpNum : List (List Nat × Nat) := []
noncomputable def cs_spec_l1CmpNum : List Ctr := []
noncomputable def F_spec_l1CmpNum (n : Nat) (a0 : Int) (a1 : Int) : Option Int := run Try.prog A_spec_l1CmpNum In_spec_l1CmpNum (conOf cs_spec_l1CmpNum) Try.f130 (Try.f130.body.getD .skip) (packT [I64]) n (argsV [I64, I64] (a0, a1, ()))
theorem F_spec_l1CmpNum_eq (n : Nat) (a0 : Int) (a1 : Int) : F_spec_l1CmpNum n a0 a1 =
    bif decide (a0 < a1) then
      some (-1)
    else
      bif decide (a1 < a0) then
        some 1
      else
        some 0 := by kernel_rfl
theorem S_spec_l1CmpNum (n : Nat) (a0 : Int) (a1 : Int) : F_spec_l1CmpNum n a0 a1 = some (T_spec_l1CmpNum a0 a1) := (F_spec_l1CmpNum_eq n a0 a1).trans (cond_some rfl (cond_some rfl rfl))
theorem hcs_spec_l1CmpNum : ∀ x ∈ cs_spec_l1CmpNum, CtrOk Try.prog x := conOf_nil
theorem ok_spec_l1CmpNum : CtrOk Try.prog c_spec_l1CmpNum := by
  refine ctr_of_run (c := c_spec_l1CmpNum) (by kernel_rfl) (by kernel_rfl : Try.prog.funcs[130]? = some Try.f130) (code := Try.f130.body.getD .skip) (by kernel_rfl) (by kernel_rfl) (by kernel_rfl) (A := A_spec_l1CmpNum) (I := In_spec_l1CmpNum) hcs_spec_l1CmpNum ?_
  rintro ⟨a0, a1, u⟩ y hy
  exact ⟨0, (S_spec_l1CmpNum 0 a0 a1).trans hy⟩

/-! ## spec.l1CmpText (102) -/
noncomputable def P_spec_l1CmpText_0_2 (x1 : (List Int)) (x2 : (List Int)) : List Int → Nat → Option Int
  | [], k =>
      some (T_spec_l1CmpNum (x1.length : Int) (x2.length : Int))
  | e :: rest, k =>
      bif decide ((k : Int) < (x2.length : Int)) then
        bif inB (k : Int) x2.length then
          bif !decide (e = rd x2 (k : Int) 0) then
            bif inB (k : Int) x2.length then
              some (T_spec_l1CmpNum (IntKind.wrap .i64 (e)) (IntKind.wrap .i64 (rd x2 (k : Int) 0)))
            else none
          else
            P_spec_l1CmpText_0_2 x1 x2 rest (k + 1)
        else none
      else
        some (T_spec_l1CmpNum (x1.length : Int) (x2.length : Int))
noncomputable def P_spec_l1CmpText (a0 : (List Int)) (a1 : (List Int)) : Option Int :=
  lenOk a0 (P_spec_l1CmpText_0_2 a0 a1 a0 0)
noncomputable def c_spec_l1CmpText : Ctr := ⟨102, [.str, .str], [I64], fun x => P_spec_l1CmpText x.1 x.2.1⟩
def A_spec_l1CmpText : List (List Nat × Ann) := [([0, 2], [.keep 0 0, .keep 0 1, .keep 0 5])]
def In_spec_l1CmpText : List (List Nat × Nat) := []
noncomputable def cs_spec_l1CmpText : List Ctr := [c_spec_l1CmpNum]
noncomputable def F_spec_l1CmpText (n : Nat) (a0 : (List Int)) (a1 : (List Int)) : Option Int := run Try.prog A_spec_l1CmpText In_spec_l1CmpText (conOf cs_spec_l1CmpText) Try.f102 (Try.f102.body.getD .skip) (packT [I64]) n (argsV [.str, .str] (a0, a1, ()))
noncomputable abbrev L_spec_l1CmpText_0_2 (n : Nat) (x1 : (List Int)) (x2 : (List Int)) (x3 : Int) : Option Int := lam Try.prog A_spec_l1CmpText In_spec_l1CmpText (conOf cs_spec_l1CmpText) Try.f102 (Try.f102.body.getD .skip) (packT [I64]) n [0, 2] [.d .str x1, .d .str x2, .d I64 x3]
theorem F_spec_l1CmpText_eq (n : Nat) (a0 : (List Int)) (a1 : (List Int)) : F_spec_l1CmpText n a0 a1 =
    L_spec_l1CmpText_0_2 n a0 a1 0 := by kernel_rfl
theorem L_spec_l1CmpText_0_2_eq (n : Nat) (x1 : (List Int)) (x2 : (List Int)) (x3 : Int) : L_spec_l1CmpText_0_2 (n + 1) x1 x2 x3 =
    bif decide (x3 < (x1.length : Int)) then
      bif decide (x3 < (x2.length : Int)) then
        bif inB x3 x1.length then
          bif inB x3 x2.length then
            bif !decide (rd x1 x3 0 = rd x2 x3 0) then
              bif inB x3 x1.length then
                bif inB x3 x2.length then
                  some (T_spec_l1CmpNum (IntKind.wrap .i64 (rd x1 x3 0)) (IntKind.wrap .i64 (rd x2 x3 0)))
                else none
              else none
            else
              L_spec_l1CmpText_0_2 n x1 x2 (IntKind.wrap .i64 (x3 + 1))
          else none
        else none
      else
        some (T_spec_l1CmpNum (x1.length : Int) (x2.length : Int))
    else
      some (T_spec_l1CmpNum (x1.length : Int) (x2.length : Int)) := by kernel_rfl
theorem S_spec_l1CmpText_0_2 {x1 : (List Int)} {x2 : (List Int)} (hl : x1.length ≤ maxLen) : ∀ (rest : List Int) (k : Nat) (r : Int), rest = x1.drop k → P_spec_l1CmpText_0_2 x1 x2 rest k = some r → Ev (fun n => L_spec_l1CmpText_0_2 n x1 x2 (k : Int)) r := by
  intro rest
  induction rest with
  | nil =>
    intro k r hr h
    have hk := drop_nil hr
    rw [P_spec_l1CmpText_0_2] at h
    refine Ev.step ?_ (fun n => L_spec_l1CmpText_0_2_eq n x1 x2 (k : Int))
    rw [show decide ((k : Int) < (x1.length : Int)) = false from decide_eq_false (by omega)]
    exact Ev.neg rfl (Ev.ofSome h)
  | cons e rest ih =>
    intro k r hr h
    obtain ⟨hk, hx, hr2⟩ := drop_cons (d := 0) hr
    have hw := wrap_succ hl hk
    have ih2 : ∀ (r : Int), P_spec_l1CmpText_0_2 x1 x2 rest (k + 1) = some r → Ev (fun n => L_spec_l1CmpText_0_2 n x1 x2 (IntKind.wrap .i64 ((k : Int) + 1))) r := by
      intro r h; rw [hw]; exact ih (k + 1) r hr2 h
    rw [P_spec_l1CmpText_0_2] at h
    refine Ev.step ?_ (fun n => L_spec_l1CmpText_0_2_eq n x1 x2 (k : Int))
    rw [show decide ((k : Int) < (x1.length : Int)) = true from decide_eq_true (by omega), inB_nat2 hk, hx]
    exact Ev.pos rfl (Ev.ofBif h (fun h => (Ev.pos rfl (Ev.ofBif h (fun h => (Ev.ofBif h (fun h => (Ev.pos rfl (Ev.ofBif h (fun h => (Ev.ofSome h)) (fun h => (Ev.ofNone h))))) (fun h => (ih2  _ h)))) (fun h => (Ev.ofNone h))))) (fun h => (Ev.ofSome h)))
theorem S_spec_l1CmpText (a0 : (List Int)) (a1 : (List Int)) {r : Int} (h : P_spec_l1CmpText a0 a1 = some r) : Ev (fun n => F_spec_l1CmpText n a0 a1) r := by
  rw [P_spec_l1CmpText] at h
  refine Ev.of_eq ?_ (fun n => F_spec_l1CmpText_eq n a0 a1)
  exact (Ev.ofLen h fun hl h => S_spec_l1CmpText_0_2 hl _ (0 : Nat) _ rfl h)
theorem hcs_spec_l1CmpText : ∀ x ∈ cs_spec_l1CmpText, CtrOk Try.prog x := (conOf_cons ok_spec_l1CmpNum conOf_nil)
theorem ok_spec_l1CmpText : CtrOk Try.prog c_spec_l1CmpText := by
  refine ctr_of_run (c := c_spec_l1CmpText) (by kernel_rfl) (by kernel_rfl : Try.prog.funcs[102]? = some Try.f102) (code := Try.f102.body.getD .skip) (by kernel_rfl) (by kernel_rfl) (by kernel_rfl) (A := A_spec_l1CmpText) (I := In_spec_l1CmpText) hcs_spec_l1CmpText ?_
  rintro ⟨a0, a1, u⟩ y hy
  exact (S_spec_l1CmpText a0 a1 hy).get

/-! ## spec.l3Rising (103) -/
noncomputable def P_spec_l3Rising_0_2 (x1 : (List (List Int))) : List (List Int) → Nat → Option Bool
  | [], k =>
      some true
  | e :: rest, k =>
      bif inB (IntKind.wrap .i64 ((k : Int) - 1)) x1.length then
        Option.bind (P_spec_l1CmpText (rd x1 (IntKind.wrap .i64 ((k : Int) - 1)) (Ty.dflt .str)) (e)) fun (y1 : Int) =>
        bif decide ((0 : Int) ≤ y1) then
          some false
        else
          P_spec_l3Rising_0_2 x1 rest (k + 1)
      else none
noncomputable def P_spec_l3Rising (a0 : (List (List Int))) : Option Bool :=
  lenOk a0 (P_spec_l3Rising_0_2 a0 (a0.drop 1) 1)
noncomputable def c_spec_l3Rising : Ctr := ⟨103, [(.list .str)], [.bool], fun x => P_spec_l3Rising x.1⟩
def A_spec_l3Rising : List (List Nat × Ann) := [([0, 2], [.keep 0 0, .keep 0 3])]
def In_spec_l3Rising : List (List Nat × Nat) := []
noncomputable def cs_spec_l3Rising : List Ctr := [c_spec_l1CmpText]
noncomputable def F_spec_l3Rising (n : Nat) (a0 : (List (List Int))) : Option Bool := run Try.prog A_spec_l3Rising In_spec_l3Rising (conOf cs_spec_l3Rising) Try.f103 (Try.f103.body.getD .skip) (packT [.bool]) n (argsV [(.list .str)] (a0, ()))
noncomputable abbrev L_spec_l3Rising_0_2 (n : Nat) (x1 : (List (List Int))) (x2 : Int) : Option Bool := lam Try.prog A_spec_l3Rising In_spec_l3Rising (conOf cs_spec_l3Rising) Try.f103 (Try.f103.body.getD .skip) (packT [.bool]) n [0, 2] [.d (.list .str) x1, .d I64 x2]
theorem F_spec_l3Rising_eq (n : Nat) (a0 : (List (List Int))) : F_spec_l3Rising n a0 =
    L_spec_l3Rising_0_2 n a0 1 := by kernel_rfl
theorem L_spec_l3Rising_0_2_eq (n : Nat) (x1 : (List (List Int))) (x2 : Int) : L_spec_l3Rising_0_2 (n + 1) x1 x2 =
    bif decide (x2 < (x1.length : Int)) then
      bif inB (IntKind.wrap .i64 (x2 - 1)) x1.length then
        bif inB x2 x1.length then
          Option.bind (P_spec_l1CmpText (rd x1 (IntKind.wrap .i64 (x2 - 1)) (Ty.dflt .str)) (rd x1 x2 (Ty.dflt .str))) fun (y1 : Int) =>
          bif decide ((0 : Int) ≤ y1) then
            some false
          else
            L_spec_l3Rising_0_2 n x1 (IntKind.wrap .i64 (x2 + 1))
        else none
      else none
    else
      some true := by kernel_rfl
theorem S_spec_l3Rising_0_2 {x1 : (List (List Int))} (hl : x1.length ≤ maxLen) : ∀ (rest : List (List Int)) (k : Nat) (r : Bool), rest = x1.drop k → P_spec_l3Rising_0_2 x1 rest k = some r → Ev (fun n => L_spec_l3Rising_0_2 n x1 (k : Int)) r := by
  intro rest
  induction rest with
  | nil =>
    intro k r hr h
    have hk := drop_nil hr
    rw [P_spec_l3Rising_0_2] at h
    refine Ev.step ?_ (fun n => L_spec_l3Rising_0_2_eq n x1 (k : Int))
    rw [show decide ((k : Int) < (x1.length : Int)) = false from decide_eq_false (by omega)]
    exact Ev.neg rfl (Ev.ofSome h)
  | cons e rest ih =>
    intro k r hr h
    obtain ⟨hk, hx, hr2⟩ := drop_cons (d := (Ty.dflt .str)) hr
    have hw := wrap_succ hl hk
    have ih2 : ∀ (r : Bool), P_spec_l3Rising_0_2 x1 rest (k + 1) = some r → Ev (fun n => L_spec_l3Rising_0_2 n x1 (IntKind.wrap .i64 ((k : Int) + 1))) r := by
      intro r h; rw [hw]; exact ih (k + 1) r hr2 h
    rw [P_spec_l3Rising_0_2] at h
    refine Ev.step ?_ (fun n => L_spec_l3Rising_0_2_eq n x1 (k : Int))
    rw [show decide ((k : Int) < (x1.length : Int)) = true from decide_eq_true (by omega), inB_nat2 hk, hx]
    exact Ev.pos rfl (Ev.ofBif h (fun h => (Ev.pos rfl (Ev.ofBind h fun y1 h => (Ev.ofBif h (fun h => (Ev.ofSome h)) (fun h => (ih2  _ h)))))) (fun h => (Ev.ofNone h)))
theorem S_spec_l3Rising (a0 : (List (List Int))) {r : Bool} (h : P_spec_l3Rising a0 = some r) : Ev (fun n => F_spec_l3Rising n a0) r := by
  rw [P_spec_l3Rising] at h
  refine Ev.of_eq ?_ (fun n => F_spec_l3Rising_eq n a0)
  exact (Ev.ofLen h fun hl h => S_spec_l3Rising_0_2 hl _ (1 : Nat) _ rfl h)
theorem hcs_spec_l3Rising : ∀ x ∈ cs_spec_l3Rising, CtrOk Try.prog x := (conOf_cons ok_spec_l1CmpText conOf_nil)
theorem ok_spec_l3Rising : CtrOk Try.prog c_spec_l3Rising := by
  refine ctr_of_run (c := c_spec_l3Rising) (by kernel_rfl) (by kernel_rfl : Try.prog.funcs[103]? = some Try.f103) (code := Try.f103.body.getD .skip) (by kernel_rfl) (by kernel_rfl) (by kernel_rfl) (A := A_spec_l3Rising) (I := In_spec_l3Rising) hcs_spec_l3Rising ?_
  rintro ⟨a0, u⟩ y hy
  exact (S_spec_l3Rising a0 hy).get

/-! ## spec.l15All (101) -/
noncomputable def P_spec_l15All_0_2 (x1 : (List (List Int))) (x5 : DRoleSet) : List (List Int) → Option Bool
  | [] =>
      Option.bind (P_spec_l3Rising x1) fun (y2 : Bool) =>
      some y2
  | e :: rest =>
      Option.bind (P_spec_l15Role x5 (e)) fun (y1 : (DRole × Bool)) =>
      bif !(y1.2) then
        some false
      else
        P_spec_l15All_0_2 x1 x5 rest
noncomputable def P_spec_l15All (a0 : DRoleSet) (a1 : (List (List Int))) : Option Bool :=
  lenOk a1 (P_spec_l15All_0_2 a1 a0 a1)
noncomputable def c_spec_l15All : Ctr := ⟨101, [TyRoleSet, (.list .str)], [.bool], fun x => P_spec_l15All x.1 x.2.1⟩
def A_spec_l15All : List (List Nat × Ann) := [([0, 2], [.keep 0 1, .keep 0 2, .keep 0 9, .keep 0 10, .keep 0 11, .boxd 0 2 TyRoleSet])]
def In_spec_l15All : List (List Nat × Nat) := []
noncomputable def cs_spec_l15All : List Ctr := [c_spec_l15Role, c_spec_l3Rising]
noncomputable def F_spec_l15All (n : Nat) (a0 : DRoleSet) (a1 : (List (List Int))) : Option Bool := run Try.prog A_spec_l15All In_spec_l15All (conOf cs_spec_l15All) Try.f101 (Try.f101.body.getD .skip) (packT [.bool]) n (argsV [TyRoleSet, (.list .str)] (a0, a1, ()))
noncomputable abbrev L_spec_l15All_0_2 (n : Nat) (x1 : (List (List Int))) (x2 : (List (List Int))) (x3 : Int) (x4 : Int) (x5 : DRoleSet) : Option Bool := lam Try.prog A_spec_l15All In_spec_l15All (conOf cs_spec_l15All) Try.f101 (Try.f101.body.getD .skip) (packT [.bool]) n [0, 2] [.d (.list .str) x1, .ptr 0 2 0, .d (.list .str) x2, .d I64 x3, .d I64 x4, .agg (explode TyRoleSet x5)]
theorem F_spec_l15All_eq (n : Nat) (a0 : DRoleSet) (a1 : (List (List Int))) : F_spec_l15All n a0 a1 =
    L_spec_l15All_0_2 n a1 a1 (a1.length : Int) 0 a0 := by kernel_rfl
theorem L_spec_l15All_0_2_eq (n : Nat) (x1 : (List (List Int))) (x2 : (List (List Int))) (x3 : Int) (x4 : Int) (x5 : DRoleSet) : L_spec_l15All_0_2 (n + 1) x1 x2 x3 x4 x5 =
    bif decide (x4 < x3) then
      bif inB x4 x2.length then
        Option.bind (P_spec_l15Role x5 (rd x2 x4 (Ty.dflt .str))) fun (y1 : (DRole × Bool)) =>
        bif !(y1.2) then
          some false
        else
          L_spec_l15All_0_2 n x1 x2 x3 (IntKind.wrap .i64 (x4 + 1)) x5
      else none
    else
      Option.bind (P_spec_l3Rising x1) fun (y2 : Bool) =>
      some y2 := by kernel_rfl
theorem S_spec_l15All_0_2 {x1 : (List (List Int))} {x5 : DRoleSet} (hl : x1.length ≤ maxLen) : ∀ (rest : List (List Int)) (k : Nat) (r : Bool), rest = x1.drop k → P_spec_l15All_0_2 x1 x5 rest = some r → Ev (fun n => L_spec_l15All_0_2 n x1 x1 (x1.length : Int) (k : Int) x5) r := by
  intro rest
  induction rest with
  | nil =>
    intro k r hr h
    have hk := drop_nil hr
    rw [P_spec_l15All_0_2] at h
    refine Ev.step ?_ (fun n => L_spec_l15All_0_2_eq n x1 x1 (x1.length : Int) (k : Int) x5)
    rw [show decide ((k : Int) < (x1.length : Int)) = false from decide_eq_false (by omega)]
    exact Ev.neg rfl (Ev.ofBind h fun y2 h => (Ev.ofSome h))
  | cons e rest ih =>
    intro k r hr h
    obtain ⟨hk, hx, hr2⟩ := drop_cons (d := (Ty.dflt .str)) hr
    have hw := wrap_succ hl hk
    have ih2 : ∀ (r : Bool), P_spec_l15All_0_2 x1 x5 rest = some r → Ev (fun n => L_spec_l15All_0_2 n x1 x1 (x1.length : Int) (IntKind.wrap .i64 ((k : Int) + 1)) x5) r := by
      intro r h; rw [hw]; exact ih (k + 1) r hr2 h
    rw [P_spec_l15All_0_2] at h
    refine Ev.step ?_ (fun n => L_spec_l15All_0_2_eq n x1 x1 (x1.length : Int) (k : Int) x5)
    rw [show decide ((k : Int) < (x1.length : Int)) = true from decide_eq_true (by omega), inB_nat2 hk, hx]
    exact Ev.pos rfl (Ev.pos rfl (Ev.ofBind h fun y1 h => (Ev.ofBif h (fun h => (Ev.ofSome h)) (fun h => (ih2  _ h)))))
theorem S_spec_l15All (a0 : DRoleSet) (a1 : (List (List Int))) {r : Bool} (h : P_spec_l15All a0 a1 = some r) : Ev (fun n => F_spec_l15All n a0 a1) r := by
  rw [P_spec_l15All] at h
  refine Ev.of_eq ?_ (fun n => F_spec_l15All_eq n a0 a1)
  exact (Ev.ofLen h fun hl h => S_spec_l15All_0_2 hl _ (0 : Nat) _ rfl h)
theorem hcs_spec_l15All : ∀ x ∈ cs_spec_l15All, CtrOk Try.prog x := (conOf_cons ok_spec_l15Role (conOf_cons ok_spec_l3Rising conOf_nil))
theorem ok_spec_l15All : CtrOk Try.prog c_spec_l15All := by
  refine ctr_of_run (c := c_spec_l15All) (by kernel_rfl) (by kernel_rfl : Try.prog.funcs[101]? = some Try.f101) (code := Try.f101.body.getD .skip) (by kernel_rfl) (by kernel_rfl) (by kernel_rfl) (A := A_spec_l15All) (I := In_spec_l15All) hcs_spec_l15All ?_
  rintro ⟨a0, a1, u⟩ y hy
  exact (S_spec_l15All a0 a1 hy).get

/-! ## spec.l1Digit (135) -/
def T_spec_l1Digit (a0 : Int) : Bool :=
  bif decide ((48 : Int) ≤ a0) then
    decide (a0 ≤ 57)
  else
    false
noncomputable def c_spec_l1Digit : Ctr := ⟨135, [U8], [.bool], fun x => some (T_spec_l1Digit x.1)⟩
def A_spec_l1Digit : List (List Nat × Ann) := []
def In_spec_l1Digit : List (List Nat × Nat) := []
noncomputable def cs_spec_l1Digit : List Ctr := []
noncomputable def F_spec_l1Digit (n : Nat) (a0 : Int) : Option Bool := run Try.prog A_spec_l1Digit In_spec_l1Digit (conOf cs_spec_l1Digit) Try.f135 (Try.f135.body.getD .skip) (packT [.bool]) n (argsV [U8] (a0, ()))
theorem F_spec_l1Digit_eq (n : Nat) (a0 : Int) : F_spec_l1Digit n a0 =
    bif decide ((48 : Int) ≤ a0) then
      some (decide (a0 ≤ 57))
    else
      some false := by kernel_rfl
theorem S_spec_l1Digit (n : Nat) (a0 : Int) : F_spec_l1Digit n a0 = some (T_spec_l1Digit a0) := (F_spec_l1Digit_eq n a0).trans (cond_some rfl rfl)
theorem hcs_spec_l1Digit : ∀ x ∈ cs_spec_l1Digit, CtrOk Try.prog x := conOf_nil
theorem ok_spec_l1Digit : CtrOk Try.prog c_spec_l1Digit := by
  refine ctr_of_run (c := c_spec_l1Digit) (by kernel_rfl) (by kernel_rfl : Try.prog.funcs[135]? = some Try.f135) (code := Try.f135.body.getD .skip) (by kernel_rfl) (by kernel_rfl) (by kernel_rfl) (A := A_spec_l1Digit) (I := In_spec_l1Digit) hcs_spec_l1Digit ?_
  rintro ⟨a0, u⟩ y hy
  exact ⟨0, (S_spec_l1Digit 0 a0).trans hy⟩

/-! ## spec.l1Letter (136) -/
def T_spec_l1Letter (a0 : Int) : Bool :=
  bif decide ((97 : Int) ≤ a0) then
    bif decide (a0 ≤ 122) then
      true
    else
      bif decide ((65 : Int) ≤ a0) then
        decide (a0 ≤ 90)
      else
        false
  else
    bif decide ((65 : Int) ≤ a0) then
      decide (a0 ≤ 90)
    else
      false
noncomputable def c_spec_l1Letter : Ctr := ⟨136, [U8], [.bool], fun x => some (T_spec_l1Letter x.1)⟩
def A_spec_l1Letter : List (List Nat × Ann) := []
def In_spec_l1Letter : List (List Nat × Nat) := []
noncomputable def cs_spec_l1Letter : List Ctr := []
noncomputable def F_spec_l1Letter (n : Nat) (a0 : Int) : Option Bool := run Try.prog A_spec_l1Letter In_spec_l1Letter (conOf cs_spec_l1Letter) Try.f136 (Try.f136.body.getD .skip) (packT [.bool]) n (argsV [U8] (a0, ()))
theorem F_spec_l1Letter_eq (n : Nat) (a0 : Int) : F_spec_l1Letter n a0 =
    bif decide ((97 : Int) ≤ a0) then
      bif decide (a0 ≤ 122) then
        some true
      else
        bif decide ((65 : Int) ≤ a0) then
          some (decide (a0 ≤ 90))
        else
          some false
    else
      bif decide ((65 : Int) ≤ a0) then
        some (decide (a0 ≤ 90))
      else
        some false := by kernel_rfl
theorem S_spec_l1Letter (n : Nat) (a0 : Int) : F_spec_l1Letter n a0 = some (T_spec_l1Letter a0) := (F_spec_l1Letter_eq n a0).trans (cond_some (cond_some rfl (cond_some rfl rfl)) (cond_some rfl rfl))
theorem hcs_spec_l1Letter : ∀ x ∈ cs_spec_l1Letter, CtrOk Try.prog x := conOf_nil
theorem ok_spec_l1Letter : CtrOk Try.prog c_spec_l1Letter := by
  refine ctr_of_run (c := c_spec_l1Letter) (by kernel_rfl) (by kernel_rfl : Try.prog.funcs[136]? = some Try.f136) (code := Try.f136.body.getD .skip) (by kernel_rfl) (by kernel_rfl) (by kernel_rfl) (A := A_spec_l1Letter) (I := In_spec_l1Letter) hcs_spec_l1Letter ?_
  rintro ⟨a0, u⟩ y hy
  exact ⟨0, (S_spec_l1Letter 0 a0).trans hy⟩

/-! ## spec.GoodName (82) -/
noncomputable def P_spec_GoodName_0_4 : List Int → Option Bool
  | [] =>
      some true
  | e :: rest =>
      bif !(T_spec_l1Letter (e)) then
        bif !(T_spec_l1Digit (e)) then
          bif !decide (e = 95) then
            some false
          else
            P_spec_GoodName_0_4 rest
        else
          P_spec_GoodName_0_4 rest
      else
        P_spec_GoodName_0_4 rest
noncomputable def P_spec_GoodName (a0 : (List Int)) : Option Bool :=
  bif decide ((a0.length : Int) < 1) then
    some false
  else
    bif decide ((30 : Int) < (a0.length : Int)) then
      some false
    else
      bif inB 0 a0.length then
        bif T_spec_l1Digit (rd a0 0 0) then
          some false
        else
          lenOk a0 (P_spec_GoodName_0_4 a0)
      else none
noncomputable def c_spec_GoodName : Ctr := ⟨82, [.str], [.bool], fun x => P_spec_GoodName x.1⟩
def A_spec_GoodName : List (List Nat × Ann) := [([0, 4], [.keep 0 0, .keep 0 3])]
def In_spec_GoodName : List (List Nat × Nat) := []
noncomputable def cs_spec_GoodName : List Ctr := [c_spec_l1Digit, c_spec_l1Letter]
noncomputable def F_spec_GoodName (n : Nat) (a0 : (List Int)) : Option Bool := run Try.prog A_spec_GoodName In_spec_GoodName (conOf cs_spec_GoodName) Try.f82 (Try.f82.body.getD .skip) (packT [.bool]) n (argsV [.str] (a0, ()))
noncomputable abbrev L_spec_GoodName_0_4 (n : Nat) (x1 : (List Int)) (x2 : Int) : Option Bool := lam Try.prog A_spec_GoodName In_spec_GoodName (conOf cs_spec_GoodName) Try.f82 (Try.f82.body.getD .skip) (packT [.bool]) n [0, 4] [.d .str x1, .d I64 x2]
theorem F_spec_GoodName_eq (n : Nat) (a0 : (List Int)) : F_spec_GoodName n a0 =
    bif decide ((a0.length : Int) < 1) then
      some false
    else
      bif decide ((30 : Int) < (a0.length : Int)) then
        some false
      else
        bif inB 0 a0.length then
          bif T_spec_l1Digit (rd a0 0 0) then
            some false
          else
            L_spec_GoodName_0_4 n a0 0
        else none := by kernel_rfl
theorem L_spec_GoodName_0_4_eq (n : Nat) (x1 : (List Int)) (x2 : Int) : L_spec_GoodName_0_4 (n + 1) x1 x2 =
    bif decide (x2 < (x1.length : Int)) then
      bif inB x2 x1.length then
        bif !(T_spec_l1Letter (rd x1 x2 0)) then
          bif inB x2 x1.length then
            bif !(T_spec_l1Digit (rd x1 x2 0)) then
              bif inB x2 x1.length then
                bif !decide (rd x1 x2 0 = 95) then
                  some false
                else
                  L_spec_GoodName_0_4 n x1 (IntKind.wrap .i64 (x2 + 1))
              else none
            else
              L_spec_GoodName_0_4 n x1 (IntKind.wrap .i64 (x2 + 1))
          else none
        else
          L_spec_GoodName_0_4 n x1 (IntKind.wrap .i64 (x2 + 1))
      else none
    else
      some true := by kernel_rfl
theorem S_spec_GoodName_0_4 {x1 : (List Int)} (hl : x1.length ≤ maxLen) : ∀ (rest : List Int) (k : Nat) (r : Bool), rest = x1.drop k → P_spec_GoodName_0_4 rest = some r → Ev (fun n => L_spec_GoodName_0_4 n x1 (k : Int)) r := by
  intro rest
  induction rest with
  | nil =>
    intro k r hr h
    have hk := drop_nil hr
    rw [P_spec_GoodName_0_4] at h
    refine Ev.step ?_ (fun n => L_spec_GoodName_0_4_eq n x1 (k : Int))
    rw [show decide ((k : Int) < (x1.length : Int)) = false from decide_eq_false (by omega)]
    exact Ev.neg rfl (Ev.ofSome h)
  | cons e rest ih =>
    intro k r hr h
    obtain ⟨hk, hx, hr2⟩ := drop_cons (d := 0) hr
    have hw := wrap_succ hl hk
    have ih2 : ∀ (r : Bool), P_spec_GoodName_0_4 rest = some r → Ev (fun n => L_spec_GoodName_0_4 n x1 (IntKind.wrap .i64 ((k : Int) + 1))) r := by
      intro r h; rw [hw]; exact ih (k + 1) r hr2 h
    rw [P_spec_GoodName_0_4] at h
    refine Ev.step ?_ (fun n => L_spec_GoodName_0_4_eq n x1 (k : Int))
    rw [show decide ((k : Int) < (x1.length : Int)) = true from decide_eq_true (by omega), inB_nat2 hk, hx]
    exact Ev.pos rfl (Ev.pos rfl (Ev.ofBif h (fun h => (Ev.pos rfl (Ev.ofBif h (fun h => (Ev.pos rfl (Ev.ofBif h (fun h => (Ev.ofSome h)) (fun h => (ih2  _ h))))) (fun h => (ih2  _ h))))) (fun h => (ih2  _ h))))
theorem S_spec_GoodName (a0 : (List Int)) {r : Bool} (h : P_spec_GoodName a0 = some r) : Ev (fun n => F_spec_GoodName n a0) r := by
  rw [P_spec_GoodName] at h
  refine Ev.of_eq ?_ (fun n => F_spec_GoodName_eq n a0)
  exact (Ev.ofBif h (fun h => (Ev.ofSome h)) (fun h => (Ev.ofBif h (fun h => (Ev.ofSome h)) (fun h => (Ev.ofBif h (fun h => (Ev.ofBif h (fun h => (Ev.ofSome h)) (fun h => (Ev.ofLen h fun hl h => S_spec_GoodName_0_4 hl _ (0 : Nat) _ rfl h)))) (fun h => (Ev.ofNone h)))))))
theorem hcs_spec_GoodName : ∀ x ∈ cs_spec_GoodName, CtrOk Try.prog x := (conOf_cons ok_spec_l1Digit (conOf_cons ok_spec_l1Letter conOf_nil))
theorem ok_spec_GoodName : CtrOk Try.prog c_spec_GoodName := by
  refine ctr_of_run (c := c_spec_GoodName) (by kernel_rfl) (by kernel_rfl : Try.prog.funcs[82]? = some Try.f82) (code := Try.f82.body.getD .skip) (by kernel_rfl) (by kernel_rfl) (by kernel_rfl) (A := A_spec_GoodName) (I := In_spec_GoodName) hcs_spec_GoodName ?_
  rintro ⟨a0, u⟩ y hy
  exact (S_spec_GoodName a0 hy).get

/-! ## spec.l3Has (48) -/
noncomputable def P_spec_l3Has_0_2 (x1 : (List Int)) : List (List Int) → Option Bool
  | [] =>
      some false
  | e :: rest =>
      bif decide (e = x1) then
        some true
      else
        P_spec_l3Has_0_2 x1 rest
noncomputable def P_spec_l3Has (a0 : (List (List Int))) (a1 : (List Int)) : Option Bool :=
  lenOk a0 (P_spec_l3Has_0_2 a1 a0)
noncomputable def c_spec_l3Has : Ctr := ⟨48, [(.list .str), .str], [.bool], fun x => P_spec_l3Has x.1 x.2.1⟩
def A_spec_l3Has : List (List Nat × Ann) := [([0, 2], [.keep 0 1, .keep 0 7, .keep 0 8, .keep 0 9])]
def In_spec_l3Has : List (List Nat × Nat) := []
noncomputable def cs_spec_l3Has : List Ctr := []
noncomputable def F_spec_l3Has (n : Nat) (a0 : (List (List Int))) (a1 : (List Int)) : Option Bool := run Try.prog A_spec_l3Has In_spec_l3Has (conOf cs_spec_l3Has) Try.f48 (Try.f48.body.getD .skip) (packT [.bool]) n (argsV [(.list .str), .str] (a0, a1, ()))
noncomputable abbrev L_spec_l3Has_0_2 (n : Nat) (x1 : (List Int)) (x2 : (List (List Int))) (x3 : Int) (x4 : Int) : Option Bool := lam Try.prog A_spec_l3Has In_spec_l3Has (conOf cs_spec_l3Has) Try.f48 (Try.f48.body.getD .skip) (packT [.bool]) n [0, 2] [.d .str x1, .d (.list .str) x2, .d I64 x3, .d I64 x4]
theorem F_spec_l3Has_eq (n : Nat) (a0 : (List (List Int))) (a1 : (List Int)) : F_spec_l3Has n a0 a1 =
    L_spec_l3Has_0_2 n a1 a0 (a0.length : Int) 0 := by kernel_rfl
theorem L_spec_l3Has_0_2_eq (n : Nat) (x1 : (List Int)) (x2 : (List (List Int))) (x3 : Int) (x4 : Int) : L_spec_l3Has_0_2 (n + 1) x1 x2 x3 x4 =
    bif decide (x4 < x3) then
      bif inB x4 x2.length then
        bif decide (rd x2 x4 (Ty.dflt .str) = x1) then
          some true
        else
          L_spec_l3Has_0_2 n x1 x2 x3 (IntKind.wrap .i64 (x4 + 1))
      else none
    else
      some false := by kernel_rfl
theorem S_spec_l3Has_0_2 {x1 : (List Int)} {x2 : (List (List Int))} (hl : x2.length ≤ maxLen) : ∀ (rest : List (List Int)) (k : Nat) (r : Bool), rest = x2.drop k → P_spec_l3Has_0_2 x1 rest = some r → Ev (fun n => L_spec_l3Has_0_2 n x1 x2 (x2.length : Int) (k : Int)) r := by
  intro rest
  induction rest with
  | nil =>
    intro k r hr h
    have hk := drop_nil hr
    rw [P_spec_l3Has_0_2] at h
    refine Ev.step ?_ (fun n => L_spec_l3Has_0_2_eq n x1 x2 (x2.length : Int) (k : Int))
    rw [show decide ((k : Int) < (x2.length : Int)) = false from decide_eq_false (by omega)]
    exact Ev.neg rfl (Ev.ofSome h)
  | cons e rest ih =>
    intro k r hr h
    obtain ⟨hk, hx, hr2⟩ := drop_cons (d := (Ty.dflt .str)) hr
    have hw := wrap_succ hl hk
    have ih2 : ∀ (r : Bool), P_spec_l3Has_0_2 x1 rest = some r → Ev (fun n => L_spec_l3Has_0_2 n x1 x2 (x2.length : Int) (IntKind.wrap .i64 ((k : Int) + 1))) r := by
      intro r h; rw [hw]; exact ih (k + 1) r hr2 h
    rw [P_spec_l3Has_0_2] at h
    refine Ev.step ?_ (fun n => L_spec_l3Has_0_2_eq n x1 x2 (x2.length : Int) (k : Int))
    rw [show decide ((k : Int) < (x2.length : Int)) = true from decide_eq_true (by omega), inB_nat2 hk, hx]
    exact Ev.pos rfl (Ev.pos rfl (Ev.ofBif h (fun h => (Ev.ofSome h)) (fun h => (ih2  _ h))))
theorem S_spec_l3Has (a0 : (List (List Int))) (a1 : (List Int)) {r : Bool} (h : P_spec_l3Has a0 a1 = some r) : Ev (fun n => F_spec_l3Has n a0 a1) r := by
  rw [P_spec_l3Has] at h
  refine Ev.of_eq ?_ (fun n => F_spec_l3Has_eq n a0 a1)
  exact (Ev.ofLen h fun hl h => S_spec_l3Has_0_2 hl _ (0 : Nat) _ rfl h)
theorem hcs_spec_l3Has : ∀ x ∈ cs_spec_l3Has, CtrOk Try.prog x := conOf_nil
theorem ok_spec_l3Has : CtrOk Try.prog c_spec_l3Has := by
  refine ctr_of_run (c := c_spec_l3Has) (by kernel_rfl) (by kernel_rfl : Try.prog.funcs[48]? = some Try.f48) (code := Try.f48.body.getD .skip) (by kernel_rfl) (by kernel_rfl) (by kernel_rfl) (A := A_spec_l3Has) (I := In_spec_l3Has) hcs_spec_l3Has ?_
  rintro ⟨a0, a1, u⟩ y hy
  exact (S_spec_l3Has a0 a1 hy).get

/-! ## spec.l5Sorted (119) -/
noncomputable def P_spec_l5Sorted_0_11 (K0 : (List (List Int)) → Option (List (List Int))) (x2 : (List Int)) (x3 : Int) : Nat → (List (List Int)) → Int → Option (List (List Int))
  | 0, _, _ => none
  | m + 1, x1, x4 =>
      bif decide (x3 < x4) then
        bif inB (IntKind.wrap .i64 (x4 - 1)) x1.length then
          bif inB (IntKind.wrap .i64 (x4 - 1)) x1.length then
            bif inB x4 x1.length then
              bif inB x4 x1.length && true && true && true && true then
                P_spec_l5Sorted_0_11 K0 x2 x3 m (x1.set (Int.toNat x4) (rd x1 (IntKind.wrap .i64 (x4 - 1)) (Ty.dflt .str))) (IntKind.wrap .i64 (x4 - 1))
              else none
            else none
          else none
        else none
      else
        bif inB x3 x1.length then
          bif inB x3 x1.length && true && true && true && true then
            K0 (x1.set (Int.toNat x3) x2)
          else none
        else none
noncomputable def P_spec_l5Sorted_1_8 (K0 : (List (List Int)) → Option (List (List Int))) (m : Nat) (x1 : (List (List Int))) (x2 : (List Int)) (x3 : Int) : Option (List (List Int)) :=
  bif decide ((0 : Int) < x3) then
    bif inB (IntKind.wrap .i64 (x3 - 1)) x1.length then
      bif inB (IntKind.wrap .i64 (x3 - 1)) x1.length then
        bif decide (rd x1 (IntKind.wrap .i64 (x3 - 1)) (Ty.dflt .str) = x2) then
          K0 x1
        else
          bif decide (((x1.length : Int) + (([x2] : List (List Int)).length : Int)) * 16 ≤ room) && decide ((x1.length : Int) + (([x2] : List (List Int)).length : Int) ≤ room) then
            P_spec_l5Sorted_0_11 K0 x2 x3 m (x1 ++ ([x2] : List (List Int))) (IntKind.wrap .i64 (((x1 ++ ([x2] : List (List Int))).length : Int) - 1))
          else none
      else none
    else none
  else
    bif decide (((x1.length : Int) + (([x2] : List (List Int)).length : Int)) * 16 ≤ room) && decide ((x1.length : Int) + (([x2] : List (List Int)).length : Int) ≤ room) then
      P_spec_l5Sorted_0_11 K0 x2 x3 m (x1 ++ ([x2] : List (List Int))) (IntKind.wrap .i64 (((x1 ++ ([x2] : List (List Int))).length : Int) - 1))
    else none
noncomputable def P_spec_l5Sorted_0_6 (K0 : (List (List Int)) → Option (List (List Int))) (x1 : (List (List Int))) (x2 : (List Int)) : Nat → Int → Option (List (List Int))
  | 0, _ => none
  | m + 1, x3 =>
      bif decide ((0 : Int) < x3) then
        bif inB (IntKind.wrap .i64 (x3 - 1)) x1.length then
          bif inB (IntKind.wrap .i64 (x3 - 1)) x1.length then
            Option.bind (P_spec_l1CmpText (rd x1 (IntKind.wrap .i64 (x3 - 1)) (Ty.dflt .str)) x2) fun (y1 : Int) =>
            bif decide ((0 : Int) < y1) then
              P_spec_l5Sorted_0_6 K0 x1 x2 m (IntKind.wrap .i64 (x3 - 1))
            else
              P_spec_l5Sorted_1_8 K0 m x1 x2 x3
          else none
        else none
      else
        P_spec_l5Sorted_1_8 K0 m x1 x2 x3
noncomputable def P_spec_l5Sorted_0_3 (m : Nat) : List (List Int) → (List (List Int)) → Option (List (List Int))
  | [], x1 =>
      some x1
  | e :: rest, x1 =>
      P_spec_l5Sorted_0_6 (fun s0 => P_spec_l5Sorted_0_3 m rest s0) x1 (e) m (x1.length : Int)
noncomputable def P_spec_l5Sorted (m : Nat) (a0 : (List (List Int))) : Option (List (List Int)) :=
  lenOk a0 (P_spec_l5Sorted_0_3 m a0 [])
noncomputable def E_spec_l5Sorted (a0 : (List (List Int))) : Option (List (List Int)) := evOpt fun m => P_spec_l5Sorted m a0
noncomputable def c_spec_l5Sorted : Ctr := ⟨119, [(.list .str)], [(.list .str)], fun x => E_spec_l5Sorted x.1⟩
def A_spec_l5Sorted : List (List Nat × Ann) := [([0, 3], [.raw 0 3 .str, .keep 0 8, .keep 0 9, .keep 0 10]), ([0, 6], [.raw 0 3 .str, .keep 0 5, .keep 0 6, .keep 0 8, .keep 0 9, .keep 0 10]), ([1, 8], [.raw 0 3 .str, .keep 0 5, .keep 0 6, .keep 0 8, .keep 0 9, .keep 0 10]), ([0, 11], [.raw 0 3 .str, .keep 0 5, .keep 0 6, .keep 0 7, .keep 0 8, .keep 0 9, .keep 0 10])]
def In_spec_l5Sorted : List (List Nat × Nat) := []
noncomputable def cs_spec_l5Sorted : List Ctr := [c_spec_l1CmpText]
noncomputable def F_spec_l5Sorted (n : Nat) (a0 : (List (List Int))) : Option (List (List Int)) := run Try.prog A_spec_l5Sorted In_spec_l5Sorted (conOf cs_spec_l5Sorted) Try.f119 (Try.f119.body.getD .skip) (packT [(.list .str)]) n (argsV [(.list .str)] (a0, ()))
noncomputable abbrev L_spec_l5Sorted_0_3 (n : Nat) (x1 : (List (List Int))) (x2 : (List (List Int))) (x3 : Int) (x4 : Int) : Option (List (List Int)) := lam Try.prog A_spec_l5Sorted In_spec_l5Sorted (conOf cs_spec_l5Sorted) Try.f119 (Try.f119.body.getD .skip) (packT [(.list .str)]) n [0, 3] [.own 0 .str x1, .d (.list .str) x2, .d I64 x3, .d I64 x4]
noncomputable abbrev L_spec_l5Sorted_0_6 (n : Nat) (x1 : (List (List Int))) (x2 : (List Int)) (x3 : Int) (x4 : (List (List Int))) (x5 : Int) (x6 : Int) : Option (List (List Int)) := lam Try.prog A_spec_l5Sorted In_spec_l5Sorted (conOf cs_spec_l5Sorted) Try.f119 (Try.f119.body.getD .skip) (packT [(.list .str)]) n [0, 6] [.own 0 .str x1, .d .str x2, .d I64 x3, .d (.list .str) x4, .d I64 x5, .d I64 x6]
noncomputable abbrev L_spec_l5Sorted_1_8 (n : Nat) (x1 : (List (List Int))) (x2 : (List Int)) (x3 : Int) (x4 : (List (List Int))) (x5 : Int) (x6 : Int) : Option (List (List Int)) := lam Try.prog A_spec_l5Sorted In_spec_l5Sorted (conOf cs_spec_l5Sorted) Try.f119 (Try.f119.body.getD .skip) (packT [(.list .str)]) n [1, 8] [.own 0 .str x1, .d .str x2, .d I64 x3, .d (.list .str) x4, .d I64 x5, .d I64 x6]
noncomputable abbrev L_spec_l5Sorted_0_11 (n : Nat) (x1 : (List (List Int))) (x2 : (List Int)) (x3 : Int) (x4 : Int) (x5 : (List (List Int))) (x6 : Int) (x7 : Int) : Option (List (List Int)) := lam Try.prog A_spec_l5Sorted In_spec_l5Sorted (conOf cs_spec_l5Sorted) Try.f119 (Try.f119.body.getD .skip) (packT [(.list .str)]) n [0, 11] [.own 0 .str x1, .d .str x2, .d I64 x3, .d I64 x4, .d (.list .str) x5, .d I64 x6, .d I64 x7]
theorem F_spec_l5Sorted_eq (n : Nat) (a0 : (List (List Int))) : F_spec_l5Sorted n a0 =
    L_spec_l5Sorted_0_3 n [] a0 (a0.length : Int) 0 := by kernel_rfl
theorem L_spec_l5Sorted_0_3_eq (n : Nat) (x1 : (List (List Int))) (x2 : (List (List Int))) (x3 : Int) (x4 : Int) : L_spec_l5Sorted_0_3 (n + 1) x1 x2 x3 x4 =
    bif decide (x4 < x3) then
      bif inB x4 x2.length then
        L_spec_l5Sorted_0_6 n x1 (rd x2 x4 (Ty.dflt .str)) (x1.length : Int) x2 x3 x4
      else none
    else
      some x1 := by kernel_rfl
theorem L_spec_l5Sorted_0_6_eq (n : Nat) (x1 : (List (List Int))) (x2 : (List Int)) (x3 : Int) (x4 : (List (List Int))) (x5 : Int) (x6 : Int) : L_spec_l5Sorted_0_6 (n + 1) x1 x2 x3 x4 x5 x6 =
    bif decide ((0 : Int) < x3) then
      bif inB (IntKind.wrap .i64 (x3 - 1)) x1.length then
        bif inB (IntKind.wrap .i64 (x3 - 1)) x1.length then
          Option.bind (P_spec_l1CmpText (rd x1 (IntKind.wrap .i64 (x3 - 1)) (Ty.dflt .str)) x2) fun (y1 : Int) =>
          bif decide ((0 : Int) < y1) then
            L_spec_l5Sorted_0_6 n x1 x2 (IntKind.wrap .i64 (x3 - 1)) x4 x5 x6
          else
            L_spec_l5Sorted_1_8 n x1 x2 x3 x4 x5 x6
        else none
      else none
    else
      L_spec_l5Sorted_1_8 n x1 x2 x3 x4 x5 x6 := by kernel_rfl
theorem L_spec_l5Sorted_1_8_eq (n : Nat) (x1 : (List (List Int))) (x2 : (List Int)) (x3 : Int) (x4 : (List (List Int))) (x5 : Int) (x6 : Int) : L_spec_l5Sorted_1_8 (n + 1) x1 x2 x3 x4 x5 x6 =
    bif decide ((0 : Int) < x3) then
      bif inB (IntKind.wrap .i64 (x3 - 1)) x1.length then
        bif inB (IntKind.wrap .i64 (x3 - 1)) x1.length then
          bif decide (rd x1 (IntKind.wrap .i64 (x3 - 1)) (Ty.dflt .str) = x2) then
            L_spec_l5Sorted_0_3 n x1 x4 x5 (IntKind.wrap .i64 (x6 + 1))
          else
            bif decide (((x1.length : Int) + (([x2] : List (List Int)).length : Int)) * 16 ≤ room) && decide ((x1.length : Int) + (([x2] : List (List Int)).length : Int) ≤ room) then
              L_spec_l5Sorted_0_11 n (x1 ++ ([x2] : List (List Int))) x2 x3 (IntKind.wrap .i64 (((x1 ++ ([x2] : List (List Int))).length : Int) - 1)) x4 x5 x6
            else none
        else none
      else none
    else
      bif decide (((x1.length : Int) + (([x2] : List (List Int)).length : Int)) * 16 ≤ room) && decide ((x1.length : Int) + (([x2] : List (List Int)).length : Int) ≤ room) then
        L_spec_l5Sorted_0_11 n (x1 ++ ([x2] : List (List Int))) x2 x3 (IntKind.wrap .i64 (((x1 ++ ([x2] : List (List Int))).length : Int) - 1)) x4 x5 x6
      else none := by kernel_rfl
theorem L_spec_l5Sorted_0_11_eq (n : Nat) (x1 : (List (List Int))) (x2 : (List Int)) (x3 : Int) (x4 : Int) (x5 : (List (List Int))) (x6 : Int) (x7 : Int) : L_spec_l5Sorted_0_11 (n + 1) x1 x2 x3 x4 x5 x6 x7 =
    bif decide (x3 < x4) then
      bif inB (IntKind.wrap .i64 (x4 - 1)) x1.length then
        bif inB (IntKind.wrap .i64 (x4 - 1)) x1.length then
          bif inB x4 x1.length then
            bif inB x4 x1.length && true && true && true && true then
              L_spec_l5Sorted_0_11 n (x1.set (Int.toNat x4) (rd x1 (IntKind.wrap .i64 (x4 - 1)) (Ty.dflt .str))) x2 x3 (IntKind.wrap .i64 (x4 - 1)) x5 x6 x7
            else none
          else none
        else none
      else none
    else
      bif inB x3 x1.length then
        bif inB x3 x1.length && true && true && true && true then
          L_spec_l5Sorted_0_3 n (x1.set (Int.toNat x3) x2) x5 x6 (IntKind.wrap .i64 (x7 + 1))
        else none
      else none := by kernel_rfl
theorem S_spec_l5Sorted_0_11 {K0 : (List (List Int)) → Option (List (List Int))} {x2 : (List Int)} {x3 : Int} {x5 : (List (List Int))} {x6 : Int} {x7 : Int} (hK0 : ∀ (z1 : (List (List Int))) (r : (List (List Int))), K0 z1 = some r → Ev (fun n => L_spec_l5Sorted_0_3 n z1 x5 x6 (IntKind.wrap .i64 (x7 + 1))) r) : ∀ (m : Nat) (x1 : (List (List Int))) (x4 : Int) (r : (List (List Int))), P_spec_l5Sorted_0_11 K0 x2 x3 m x1 x4 = some r → Ev (fun n => L_spec_l5Sorted_0_11 n x1 x2 x3 x4 x5 x6 x7) r := by
  intro m
  induction m with
  | zero => intro x1 x4 r h; rw [P_spec_l5Sorted_0_11] at h; exact Ev.ofNone h
  | succ m ih2 =>
    intro x1 x4 r h
    rw [P_spec_l5Sorted_0_11] at h
    refine Ev.step ?_ (fun n => L_spec_l5Sorted_0_11_eq n x1 x2 x3 x4 x5 x6 x7)
    exact (Ev.ofBif h (fun h => (Ev.ofBif h (fun h => (Ev.ofBif h (fun h => (Ev.ofBif h (fun h => (Ev.ofBif h (fun h => (ih2 _ _ _ h)) (fun h => (Ev.ofNone h)))) (fun h => (Ev.ofNone h)))) (fun h => (Ev.ofNone h)))) (fun h => (Ev.ofNone h)))) (fun h => (Ev.ofBif h (fun h => (Ev.ofBif h (fun h => (hK0 _ _ h)) (fun h => (Ev.ofNone h)))) (fun h => (Ev.ofNone h)))))
theorem S_spec_l5Sorted_1_8 {K0 : (List (List Int)) → Option (List (List Int))} {m : Nat} {x1 : (List (List Int))} {x2 : (List Int)} {x3 : Int} {x4 : (List (List Int))} {x5 : Int} {x6 : Int} (hK0 : ∀ (z1 : (List (List Int))) (r : (List (List Int))), K0 z1 = some r → Ev (fun n => L_spec_l5Sorted_0_3 n z1 x4 x5 (IntKind.wrap .i64 (x6 + 1))) r) {r : (List (List Int))} (h : P_spec_l5Sorted_1_8 K0 m x1 x2 x3 = some r) : Ev (fun n => L_spec_l5Sorted_1_8 n x1 x2 x3 x4 x5 x6) r := by
  rw [P_spec_l5Sorted_1_8] at h
  refine Ev.step ?_ (fun n => L_spec_l5Sorted_1_8_eq n x1 x2 x3 x4 x5 x6)
  exact (Ev.ofBif h (fun h => (Ev.ofBif h (fun h => (Ev.ofBif h (fun h => (Ev.ofBif h (fun h => (hK0 _ _ h)) (fun h => (Ev.ofBif h (fun h => (S_spec_l5Sorted_0_11 hK0 _ _ _ _ h)) (fun h => (Ev.ofNone h)))))) (fun h => (Ev.ofNone h)))) (fun h => (Ev.ofNone h)))) (fun h => (Ev.ofBif h (fun h => (S_spec_l5Sorted_0_11 hK0 _ _ _ _ h)) (fun h => (Ev.ofNone h)))))
theorem S_spec_l5Sorted_0_6 {K0 : (List (List Int)) → Option (List (List Int))} {x1 : (List (List Int))} {x2 : (List Int)} {x4 : (List (List Int))} {x5 : Int} {x6 : Int} (hK0 : ∀ (z1 : (List (List Int))) (r : (List (List Int))), K0 z1 = some r → Ev (fun n => L_spec_l5Sorted_0_3 n z1 x4 x5 (IntKind.wrap .i64 (x6 + 1))) r) : ∀ (m : Nat) (x3 : Int) (r : (List (List Int))), P_spec_l5Sorted_0_6 K0 x1 x2 m x3 = some r → Ev (fun n => L_spec_l5Sorted_0_6 n x1 x2 x3 x4 x5 x6) r := by
  intro m
  induction m with
  | zero => intro x3 r h; rw [P_spec_l5Sorted_0_6] at h; exact Ev.ofNone h
  | succ m ih2 =>
    intro x3 r h
    rw [P_spec_l5Sorted_0_6] at h
    refine Ev.step ?_ (fun n => L_spec_l5Sorted_0_6_eq n x1 x2 x3 x4 x5 x6)
    exact (Ev.ofBif h (fun h => (Ev.ofBif h (fun h => (Ev.ofBif h (fun h => (Ev.ofBind h fun y1 h => (Ev.ofBif h (fun h => (ih2 _ _ h)) (fun h => (S_spec_l5Sorted_1_8 hK0 h))))) (fun h => (Ev.ofNone h)))) (fun h => (Ev.ofNone h)))) (fun h => (S_spec_l5Sorted_1_8 hK0 h)))
theorem S_spec_l5Sorted_0_3 {m : Nat} {x2 : (List (List Int))} (hl : x2.length ≤ maxLen) : ∀ (rest : List (List Int)) (k : Nat) (x1 : (List (List Int))) (r : (List (List Int))), rest = x2.drop k → P_spec_l5Sorted_0_3 m rest x1 = some r → Ev (fun n => L_spec_l5Sorted_0_3 n x1 x2 (x2.length : Int) (k : Int)) r := by
  intro rest
  induction rest with
  | nil =>
    intro k x1 r hr h
    have hk := drop_nil hr
    rw [P_spec_l5Sorted_0_3] at h
    refine Ev.step ?_ (fun n => L_spec_l5Sorted_0_3_eq n x1 x2 (x2.length : Int) (k : Int))
    rw [show decide ((k : Int) < (x2.length : Int)) = false from decide_eq_false (by omega)]
    exact Ev.neg rfl (Ev.ofSome h)
  | cons e rest ih =>
    intro k x1 r hr h
    obtain ⟨hk, hx, hr2⟩ := drop_cons (d := (Ty.dflt .str)) hr
    have hw := wrap_succ hl hk
    have ih2 : ∀ (z1 : (List (List Int))) (r : (List (List Int))), P_spec_l5Sorted_0_3 m rest z1 = some r → Ev (fun n => L_spec_l5Sorted_0_3 n z1 x2 (x2.length : Int) (IntKind.wrap .i64 ((k : Int) + 1))) r := by
      intro z1 r h; rw [hw]; exact ih (k + 1) z1 r hr2 h
    rw [P_spec_l5Sorted_0_3] at h
    refine Ev.step ?_ (fun n => L_spec_l5Sorted_0_3_eq n x1 x2 (x2.length : Int) (k : Int))
    rw [show decide ((k : Int) < (x2.length : Int)) = true from decide_eq_true (by omega), inB_nat2 hk, hx]
    exact Ev.pos rfl (Ev.pos rfl (S_spec_l5Sorted_0_6 ih2 _ _ _ h))
theorem S_spec_l5Sorted {m : Nat} (a0 : (List (List Int))) {r : (List (List Int))} (h : P_spec_l5Sorted m a0 = some r) : Ev (fun n => F_spec_l5Sorted n a0) r := by
  rw [P_spec_l5Sorted] at h
  refine Ev.of_eq ?_ (fun n => F_spec_l5Sorted_eq n a0)
  exact (Ev.ofLen h fun hl h => S_spec_l5Sorted_0_3 hl _ (0 : Nat) _ _ rfl h)
theorem hcs_spec_l5Sorted : ∀ x ∈ cs_spec_l5Sorted, CtrOk Try.prog x := (conOf_cons ok_spec_l1CmpText conOf_nil)
theorem ok_spec_l5Sorted : CtrOk Try.prog c_spec_l5Sorted := by
  refine ctr_of_run (c := c_spec_l5Sorted) (by kernel_rfl) (by kernel_rfl : Try.prog.funcs[119]? = some Try.f119) (code := Try.f119.body.getD .skip) (by kernel_rfl) (by kernel_rfl) (by kernel_rfl) (A := A_spec_l5Sorted) (I := In_spec_l5Sorted) hcs_spec_l5Sorted ?_
  rintro ⟨a0, u⟩ y hy
  exact let ⟨_, h⟩ := (evOpt_get hy).get; (S_spec_l5Sorted a0 h).get

/-! ## spec.l15Under (70) -/
noncomputable def P_spec_l15Under_0_8 (K0 : (List (List Int)) → Int → Option (List (List Int))) (x2 : Int) : List (List Int) → (List (List Int)) → Option (List (List Int))
  | [], x1 =>
      K0 x1 (IntKind.wrap .i64 (x2 + 1))
  | e :: rest, x1 =>
      Option.bind (P_spec_l3Has x1 (e)) fun (y2 : Bool) =>
      bif !(y2) then
        bif decide (((x1.length : Int) + (([e] : List (List Int)).length : Int)) * 16 ≤ room) && decide ((x1.length : Int) + (([e] : List (List Int)).length : Int) ≤ room) then
          P_spec_l15Under_0_8 K0 x2 rest (x1 ++ ([e] : List (List Int)))
        else none
      else
        P_spec_l15Under_0_8 K0 x2 rest x1
noncomputable def P_spec_l15Under_0_4 (x3 : DRoleSet) : Nat → (List (List Int)) → Int → Option (List (List Int))
  | 0, _, _ => none
  | m + 1, x1, x2 =>
      bif decide (x2 < (x1.length : Int)) then
        bif inB x2 x1.length then
          Option.bind (P_spec_l15Role x3 (rd x1 x2 (Ty.dflt .str))) fun (y1 : (DRole × Bool)) =>
          lenOk y1.1.2.1 (P_spec_l15Under_0_8 (fun s0 s1 => P_spec_l15Under_0_4 x3 m s0 s1) x2 y1.1.2.1 x1)
        else none
      else
        Option.bind (E_spec_l5Sorted x1) fun (y3 : (List (List Int))) =>
        some y3
noncomputable def P_spec_l15Under (m : Nat) (a0 : DRoleSet) (a1 : (List (List Int))) : Option (List (List Int)) :=
  bif decide ((a1.length : Int) * 16 ≤ room) && decide ((a1.length : Int) ≤ room) then
    P_spec_l15Under_0_4 a0 m a1 0
  else none
noncomputable def E_spec_l15Under (a0 : DRoleSet) (a1 : (List (List Int))) : Option (List (List Int)) := evOpt fun m => P_spec_l15Under m a0 a1
noncomputable def c_spec_l15Under : Ctr := ⟨70, [TyRoleSet, (.list .str)], [(.list .str)], fun x => E_spec_l15Under x.1 x.2.1⟩
def A_spec_l15Under : List (List Nat × Ann) := [([0, 4], [.keep 0 2, .own 0 5 .str, .keep 0 6, .boxd 0 2 TyRoleSet]), ([0, 8], [.keep 0 2, .own 0 5 .str, .keep 0 6, .keep 0 30, .keep 0 31, .keep 0 32, .boxd 0 2 TyRoleSet])]
def In_spec_l15Under : List (List Nat × Nat) := []
noncomputable def cs_spec_l15Under : List Ctr := [c_spec_l15Role, c_spec_l3Has, c_spec_l5Sorted]
noncomputable def F_spec_l15Under (n : Nat) (a0 : DRoleSet) (a1 : (List (List Int))) : Option (List (List Int)) := run Try.prog A_spec_l15Under In_spec_l15Under (conOf cs_spec_l15Under) Try.f70 (Try.f70.body.getD .skip) (packT [(.list .str)]) n (argsV [TyRoleSet, (.list .str)] (a0, a1, ()))
noncomputable abbrev L_spec_l15Under_0_4 (n : Nat) (x1 : (List (List Int))) (x2 : Int) (x3 : DRoleSet) : Option (List (List Int)) := lam Try.prog A_spec_l15Under In_spec_l15Under (conOf cs_spec_l15Under) Try.f70 (Try.f70.body.getD .skip) (packT [(.list .str)]) n [0, 4] [.ptr 0 2 0, .own 0 .str x1, .d I64 x2, .agg (explode TyRoleSet x3)]
noncomputable abbrev L_spec_l15Under_0_8 (n : Nat) (x1 : (List (List Int))) (x2 : Int) (x3 : (List (List Int))) (x4 : Int) (x5 : Int) (x6 : DRoleSet) : Option (List (List Int)) := lam Try.prog A_spec_l15Under In_spec_l15Under (conOf cs_spec_l15Under) Try.f70 (Try.f70.body.getD .skip) (packT [(.list .str)]) n [0, 8] [.ptr 0 2 0, .own 0 .str x1, .d I64 x2, .d (.list .str) x3, .d I64 x4, .d I64 x5, .agg (explode TyRoleSet x6)]
theorem F_spec_l15Under_eq (n : Nat) (a0 : DRoleSet) (a1 : (List (List Int))) : F_spec_l15Under n a0 a1 =
    bif decide ((a1.length : Int) * 16 ≤ room) && decide ((a1.length : Int) ≤ room) then
      L_spec_l15Under_0_4 n a1 0 a0
    else none := by kernel_rfl
theorem L_spec_l15Under_0_4_eq (n : Nat) (x1 : (List (List Int))) (x2 : Int) (x3 : DRoleSet) : L_spec_l15Under_0_4 (n + 1) x1 x2 x3 =
    bif decide (x2 < (x1.length : Int)) then
      bif inB x2 x1.length then
        Option.bind (P_spec_l15Role x3 (rd x1 x2 (Ty.dflt .str))) fun (y1 : (DRole × Bool)) =>
        L_spec_l15Under_0_8 n x1 x2 y1.1.2.1 (y1.1.2.1.length : Int) 0 x3
      else none
    else
      Option.bind (E_spec_l5Sorted x1) fun (y3 : (List (List Int))) =>
      some y3 := by kernel_rfl
theorem L_spec_l15Under_0_8_eq (n : Nat) (x1 : (List (List Int))) (x2 : Int) (x3 : (List (List Int))) (x4 : Int) (x5 : Int) (x6 : DRoleSet) : L_spec_l15Under_0_8 (n + 1) x1 x2 x3 x4 x5 x6 =
    bif decide (x5 < x4) then
      bif inB x5 x3.length then
        Option.bind (P_spec_l3Has x1 (rd x3 x5 (Ty.dflt .str))) fun (y2 : Bool) =>
        bif !(y2) then
          bif decide (((x1.length : Int) + (([rd x3 x5 (Ty.dflt .str)] : List (List Int)).length : Int)) * 16 ≤ room) && decide ((x1.length : Int) + (([rd x3 x5 (Ty.dflt .str)] : List (List Int)).length : Int) ≤ room) then
            L_spec_l15Under_0_8 n (x1 ++ ([rd x3 x5 (Ty.dflt .str)] : List (List Int))) x2 x3 x4 (IntKind.wrap .i64 (x5 + 1)) x6
          else none
        else
          L_spec_l15Under_0_8 n x1 x2 x3 x4 (IntKind.wrap .i64 (x5 + 1)) x6
      else none
    else
      L_spec_l15Under_0_4 n x1 (IntKind.wrap .i64 (x2 + 1)) x6 := by kernel_rfl
theorem S_spec_l15Under_0_8 {K0 : (List (List Int)) → Int → Option (List (List Int))} {x2 : Int} {x3 : (List (List Int))} {x6 : DRoleSet} (hl : x3.length ≤ maxLen) (hK0 : ∀ (z1 : (List (List Int))) (z2 : Int) (r : (List (List Int))), K0 z1 z2 = some r → Ev (fun n => L_spec_l15Under_0_4 n z1 z2 x6) r) : ∀ (rest : List (List Int)) (k : Nat) (x1 : (List (List Int))) (r : (List (List Int))), rest = x3.drop k → P_spec_l15Under_0_8 K0 x2 rest x1 = some r → Ev (fun n => L_spec_l15Under_0_8 n x1 x2 x3 (x3.length : Int) (k : Int) x6) r := by
  intro rest
  induction rest with
  | nil =>
    intro k x1 r hr h
    have hk := drop_nil hr
    rw [P_spec_l15Under_0_8] at h
    refine Ev.step ?_ (fun n => L_spec_l15Under_0_8_eq n x1 x2 x3 (x3.length : Int) (k : Int) x6)
    rw [show decide ((k : Int) < (x3.length : Int)) = false from decide_eq_false (by omega)]
    exact Ev.neg rfl (hK0 _ _ _ h)
  | cons e rest ih =>
    intro k x1 r hr h
    obtain ⟨hk, hx, hr2⟩ := drop_cons (d := (Ty.dflt .str)) hr
    have hw := wrap_succ hl hk
    have ih2 : ∀ (z1 : (List (List Int))) (r : (List (List Int))), P_spec_l15Under_0_8 K0 x2 rest z1 = some r → Ev (fun n => L_spec_l15Under_0_8 n z1 x2 x3 (x3.length : Int) (IntKind.wrap .i64 ((k : Int) + 1)) x6) r := by
      intro z1 r h; rw [hw]; exact ih (k + 1) z1 r hr2 h
    rw [P_spec_l15Under_0_8] at h
    refine Ev.step ?_ (fun n => L_spec_l15Under_0_8_eq n x1 x2 x3 (x3.length : Int) (k : Int) x6)
    rw [show decide ((k : Int) < (x3.length : Int)) = true from decide_eq_true (by omega), inB_nat2 hk, hx]
    exact Ev.pos rfl (Ev.pos rfl (Ev.ofBind h fun y2 h => (Ev.ofBif h (fun h => (Ev.ofBif h (fun h => (ih2 _ _ h)) (fun h => (Ev.ofNone h)))) (fun h => (ih2 _ _ h)))))
theorem S_spec_l15Under_0_4 {x3 : DRoleSet} : ∀ (m : Nat) (x1 : (List (List Int))) (x2 : Int) (r : (List (List Int))), P_spec_l15Under_0_4 x3 m x1 x2 = some r → Ev (fun n => L_spec_l15Under_0_4 n x1 x2 x3) r := by
  intro m
  induction m with
  | zero => intro x1 x2 r h; rw [P_spec_l15Under_0_4] at h; exact Ev.ofNone h
  | succ m ih2 =>
    intro x1 x2 r h
    rw [P_spec_l15Under_0_4] at h
    refine Ev.step ?_ (fun n => L_spec_l15Under_0_4_eq n x1 x2 x3)
    exact (Ev.ofBif h (fun h => (Ev.ofBif h (fun h => (Ev.ofBind h fun y1 h => (Ev.ofLen h fun hl h => S_spec_l15Under_0_8 hl ih2 _ (0 : Nat) _ _ rfl h))) (fun h => (Ev.ofNone h)))) (fun h => (Ev.ofBind h fun y3 h => (Ev.ofSome h))))
theorem S_spec_l15Under {m : Nat} (a0 : DRoleSet) (a1 : (List (List Int))) {r : (List (List Int))} (h : P_spec_l15Under m a0 a1 = some r) : Ev (fun n => F_spec_l15Under n a0 a1) r := by
  rw [P_spec_l15Under] at h
  refine Ev.of_eq ?_ (fun n => F_spec_l15Under_eq n a0 a1)
  exact (Ev.ofBif h (fun h => (S_spec_l15Under_0_4 _ _ _ _ h)) (fun h => (Ev.ofNone h)))
theorem hcs_spec_l15Under : ∀ x ∈ cs_spec_l15Under, CtrOk Try.prog x := (conOf_cons ok_spec_l15Role (conOf_cons ok_spec_l3Has (conOf_cons ok_spec_l5Sorted conOf_nil)))
theorem ok_spec_l15Under : CtrOk Try.prog c_spec_l15Under := by
  refine ctr_of_run (c := c_spec_l15Under) (by kernel_rfl) (by kernel_rfl : Try.prog.funcs[70]? = some Try.f70) (code := Try.f70.body.getD .skip) (by kernel_rfl) (by kernel_rfl) (by kernel_rfl) (A := A_spec_l15Under) (I := In_spec_l15Under) hcs_spec_l15Under ?_
  rintro ⟨a0, a1, u⟩ y hy
  exact let ⟨_, h⟩ := (evOpt_get hy).get; (S_spec_l15Under a0 a1 h).get

/-! ## spec.GoodRoleSet (46) -/
noncomputable def P_spec_GoodRoleSet_0_9 (K0 : Option Bool) : List (List Int) → Option Bool
  | [] =>
      K0
  | e :: rest =>
      Option.bind (P_spec_GoodName (e)) fun (y6 : Bool) =>
      bif !(y6) then
        some false
      else
        P_spec_GoodRoleSet_0_9 K0 rest
noncomputable def P_spec_GoodRoleSet_0_22 (x4 : DRoleSet) : List DApart → Option Bool
  | [] =>
      some true
  | e :: rest =>
      bif decide ((((e).1).length : Int) < 2) then
        some false
      else
        Option.bind (P_spec_l15All x4 ((e).1)) fun (y11 : Bool) =>
        bif !(y11) then
          some false
        else
          bif decide (((e).2).1 < 1) then
            some false
          else
            bif decide ((((e).1).length : Int) ≤ ((e).2).1) then
              some false
            else
              P_spec_GoodRoleSet_0_22 x4 rest
noncomputable def P_spec_GoodRoleSet_0_16 (x4 : DRoleSet) : List DRole → Option Bool
  | [] =>
      lenOk x4.2.1 (P_spec_GoodRoleSet_0_22 x4 x4.2.1)
  | e :: rest =>
      Option.bind (E_spec_l15Under x4 (((e).2).1)) fun (y9 : (List (List Int))) =>
      Option.bind (P_spec_l3Has y9 ((e).1)) fun (y10 : Bool) =>
      bif y10 then
        some false
      else
        P_spec_GoodRoleSet_0_16 x4 rest
noncomputable def P_spec_GoodRoleSet_0_4 (x4 : DRoleSet) : List DRole → Nat → Option Bool
  | [], k =>
      lenOk x4.1 (P_spec_GoodRoleSet_0_16 x4 x4.1)
  | e :: rest, k =>
      Option.bind (P_spec_GoodName ((e).1)) fun (y2 : Bool) =>
      bif !(y2) then
        some false
      else
        bif decide ((0 : Int) < (k : Int)) then
          bif inB (IntKind.wrap .i64 ((k : Int) - 1)) x4.1.length then
            Option.bind (P_spec_l1CmpText ((rd x4.1 (IntKind.wrap .i64 ((k : Int) - 1)) (Ty.dflt TyRole)).1) ((e).1)) fun (y3 : Int) =>
            bif decide ((0 : Int) ≤ y3) then
              some false
            else
              Option.bind (P_spec_l15All x4 (((e).2).1)) fun (y4 : Bool) =>
              bif !(y4) then
                some false
              else
                bif decide ((20 : Int) < ((((e).2).2).length : Int)) then
                  some false
                else
                  Option.bind (P_spec_l3Rising (((e).2).2)) fun (y5 : Bool) =>
                  bif !(y5) then
                    some false
                  else
                    lenOk (((e).2).2) (P_spec_GoodRoleSet_0_9 (P_spec_GoodRoleSet_0_4 x4 rest (k + 1)) (((e).2).2))
          else none
        else
          Option.bind (P_spec_l15All x4 (((e).2).1)) fun (y7 : Bool) =>
          bif !(y7) then
            some false
          else
            bif decide ((20 : Int) < ((((e).2).2).length : Int)) then
              some false
            else
              Option.bind (P_spec_l3Rising (((e).2).2)) fun (y8 : Bool) =>
              bif !(y8) then
                some false
              else
                lenOk (((e).2).2) (P_spec_GoodRoleSet_0_9 (P_spec_GoodRoleSet_0_4 x4 rest (k + 1)) (((e).2).2))
noncomputable def P_spec_GoodRoleSet (a0 : DRoleSet) : Option Bool :=
  bif decide ((30 : Int) < (a0.1.length : Int)) then
    some false
  else
    bif decide ((10 : Int) < (a0.2.1.length : Int)) then
      some false
    else
      Option.bind (P_spec_l15All a0 a0.2.2) fun (y1 : Bool) =>
      bif !(y1) then
        some false
      else
        lenOk a0.1 (P_spec_GoodRoleSet_0_4 a0 a0.1 0)
noncomputable def c_spec_GoodRoleSet : Ctr := ⟨46, [TyRoleSet], [.bool], fun x => P_spec_GoodRoleSet x.1⟩
def A_spec_GoodRoleSet : List (List Nat × Ann) := [([0, 4], [.keep 0 1, .keep 0 29, .keep 0 30, .keep 0 31, .boxd 0 1 TyRoleSet]), ([0, 9], [.keep 0 1, .keep 0 29, .keep 0 30, .keep 0 31, .keep 0 77, .keep 0 78, .keep 0 79, .boxd 0 1 TyRoleSet]), ([0, 16], [.keep 0 1, .keep 0 89, .keep 0 90, .keep 0 91, .boxd 0 1 TyRoleSet]), ([0, 22], [.keep 0 1, .keep 0 104, .keep 0 105, .keep 0 106, .boxd 0 1 TyRoleSet])]
def In_spec_GoodRoleSet : List (List Nat × Nat) := []
noncomputable def cs_spec_GoodRoleSet : List Ctr := [c_spec_l15All, c_spec_GoodName, c_spec_l1CmpText, c_spec_l3Rising, c_spec_l15Under, c_spec_l3Has]
noncomputable def F_spec_GoodRoleSet (n : Nat) (a0 : DRoleSet) : Option Bool := run Try.prog A_spec_GoodRoleSet In_spec_GoodRoleSet (conOf cs_spec_GoodRoleSet) Try.f46 (Try.f46.body.getD .skip) (packT [.bool]) n (argsV [TyRoleSet] (a0, ()))
noncomputable abbrev L_spec_GoodRoleSet_0_4 (n : Nat) (x1 : (List DRole)) (x2 : Int) (x3 : Int) (x4 : DRoleSet) : Option Bool := lam Try.prog A_spec_GoodRoleSet In_spec_GoodRoleSet (conOf cs_spec_GoodRoleSet) Try.f46 (Try.f46.body.getD .skip) (packT [.bool]) n [0, 4] [.ptr 0 1 0, .d (.list TyRole) x1, .d I64 x2, .d I64 x3, .agg (explode TyRoleSet x4)]
noncomputable abbrev L_spec_GoodRoleSet_0_9 (n : Nat) (x1 : (List DRole)) (x2 : Int) (x3 : Int) (x4 : (List (List Int))) (x5 : Int) (x6 : Int) (x7 : DRoleSet) : Option Bool := lam Try.prog A_spec_GoodRoleSet In_spec_GoodRoleSet (conOf cs_spec_GoodRoleSet) Try.f46 (Try.f46.body.getD .skip) (packT [.bool]) n [0, 9] [.ptr 0 1 0, .d (.list TyRole) x1, .d I64 x2, .d I64 x3, .d (.list .str) x4, .d I64 x5, .d I64 x6, .agg (explode TyRoleSet x7)]
noncomputable abbrev L_spec_GoodRoleSet_0_16 (n : Nat) (x1 : (List DRole)) (x2 : Int) (x3 : Int) (x4 : DRoleSet) : Option Bool := lam Try.prog A_spec_GoodRoleSet In_spec_GoodRoleSet (conOf cs_spec_GoodRoleSet) Try.f46 (Try.f46.body.getD .skip) (packT [.bool]) n [0, 16] [.ptr 0 1 0, .d (.list TyRole) x1, .d I64 x2, .d I64 x3, .agg (explode TyRoleSet x4)]
noncomputable abbrev L_spec_GoodRoleSet_0_22 (n : Nat) (x1 : (List DApart)) (x2 : Int) (x3 : Int) (x4 : DRoleSet) : Option Bool := lam Try.prog A_spec_GoodRoleSet In_spec_GoodRoleSet (conOf cs_spec_GoodRoleSet) Try.f46 (Try.f46.body.getD .skip) (packT [.bool]) n [0, 22] [.ptr 0 1 0, .d (.list TyApart) x1, .d I64 x2, .d I64 x3, .agg (explode TyRoleSet x4)]
theorem F_spec_GoodRoleSet_eq (n : Nat) (a0 : DRoleSet) : F_spec_GoodRoleSet n a0 =
    bif decide ((30 : Int) < (a0.1.length : Int)) then
      some false
    else
      bif decide ((10 : Int) < (a0.2.1.length : Int)) then
        some false
      else
        Option.bind (P_spec_l15All a0 a0.2.2) fun (y1 : Bool) =>
        bif !(y1) then
          some false
        else
          L_spec_GoodRoleSet_0_4 n a0.1 (a0.1.length : Int) 0 a0 := by kernel_rfl
theorem L_spec_GoodRoleSet_0_4_eq (n : Nat) (x1 : (List DRole)) (x2 : Int) (x3 : Int) (x4 : DRoleSet) : L_spec_GoodRoleSet_0_4 (n + 1) x1 x2 x3 x4 =
    bif decide (x3 < x2) then
      bif inB x3 x1.length then
        Option.bind (P_spec_GoodName ((rd x1 x3 (Ty.dflt TyRole)).1)) fun (y2 : Bool) =>
        bif !(y2) then
          some false
        else
          bif decide ((0 : Int) < x3) then
            bif inB (IntKind.wrap .i64 (x3 - 1)) x4.1.length then
              Option.bind (P_spec_l1CmpText ((rd x4.1 (IntKind.wrap .i64 (x3 - 1)) (Ty.dflt TyRole)).1) ((rd x1 x3 (Ty.dflt TyRole)).1)) fun (y3 : Int) =>
              bif decide ((0 : Int) ≤ y3) then
                some false
              else
                Option.bind (P_spec_l15All x4 (((rd x1 x3 (Ty.dflt TyRole)).2).1)) fun (y4 : Bool) =>
                bif !(y4) then
                  some false
                else
                  bif decide ((20 : Int) < ((((rd x1 x3 (Ty.dflt TyRole)).2).2).length : Int)) then
                    some false
                  else
                    Option.bind (P_spec_l3Rising (((rd x1 x3 (Ty.dflt TyRole)).2).2)) fun (y5 : Bool) =>
                    bif !(y5) then
                      some false
                    else
                      L_spec_GoodRoleSet_0_9 n x1 x2 x3 (((rd x1 x3 (Ty.dflt TyRole)).2).2) ((((rd x1 x3 (Ty.dflt TyRole)).2).2).length : Int) 0 x4
            else none
          else
            Option.bind (P_spec_l15All x4 (((rd x1 x3 (Ty.dflt TyRole)).2).1)) fun (y7 : Bool) =>
            bif !(y7) then
              some false
            else
              bif decide ((20 : Int) < ((((rd x1 x3 (Ty.dflt TyRole)).2).2).length : Int)) then
                some false
              else
                Option.bind (P_spec_l3Rising (((rd x1 x3 (Ty.dflt TyRole)).2).2)) fun (y8 : Bool) =>
                bif !(y8) then
                  some false
                else
                  L_spec_GoodRoleSet_0_9 n x1 x2 x3 (((rd x1 x3 (Ty.dflt TyRole)).2).2) ((((rd x1 x3 (Ty.dflt TyRole)).2).2).length : Int) 0 x4
      else none
    else
      L_spec_GoodRoleSet_0_16 n x4.1 (x4.1.length : Int) 0 x4 := by kernel_rfl
theorem L_spec_GoodRoleSet_0_9_eq (n : Nat) (x1 : (List DRole)) (x2 : Int) (x3 : Int) (x4 : (List (List Int))) (x5 : Int) (x6 : Int) (x7 : DRoleSet) : L_spec_GoodRoleSet_0_9 (n + 1) x1 x2 x3 x4 x5 x6 x7 =
    bif decide (x6 < x5) then
      bif inB x6 x4.length then
        Option.bind (P_spec_GoodName (rd x4 x6 (Ty.dflt .str))) fun (y6 : Bool) =>
        bif !(y6) then
          some false
        else
          L_spec_GoodRoleSet_0_9 n x1 x2 x3 x4 x5 (IntKind.wrap .i64 (x6 + 1)) x7
      else none
    else
      L_spec_GoodRoleSet_0_4 n x1 x2 (IntKind.wrap .i64 (x3 + 1)) x7 := by kernel_rfl
theorem L_spec_GoodRoleSet_0_16_eq (n : Nat) (x1 : (List DRole)) (x2 : Int) (x3 : Int) (x4 : DRoleSet) : L_spec_GoodRoleSet_0_16 (n + 1) x1 x2 x3 x4 =
    bif decide (x3 < x2) then
      bif inB x3 x1.length then
        Option.bind (E_spec_l15Under x4 (((rd x1 x3 (Ty.dflt TyRole)).2).1)) fun (y9 : (List (List Int))) =>
        Option.bind (P_spec_l3Has y9 ((rd x1 x3 (Ty.dflt TyRole)).1)) fun (y10 : Bool) =>
        bif y10 then
          some false
        else
          L_spec_GoodRoleSet_0_16 n x1 x2 (IntKind.wrap .i64 (x3 + 1)) x4
      else none
    else
      L_spec_GoodRoleSet_0_22 n x4.2.1 (x4.2.1.length : Int) 0 x4 := by kernel_rfl
theorem L_spec_GoodRoleSet_0_22_eq (n : Nat) (x1 : (List DApart)) (x2 : Int) (x3 : Int) (x4 : DRoleSet) : L_spec_GoodRoleSet_0_22 (n + 1) x1 x2 x3 x4 =
    bif decide (x3 < x2) then
      bif inB x3 x1.length then
        bif decide ((((rd x1 x3 (Ty.dflt TyApart)).1).length : Int) < 2) then
          some false
        else
          Option.bind (P_spec_l15All x4 ((rd x1 x3 (Ty.dflt TyApart)).1)) fun (y11 : Bool) =>
          bif !(y11) then
            some false
          else
            bif decide (((rd x1 x3 (Ty.dflt TyApart)).2).1 < 1) then
              some false
            else
              bif decide ((((rd x1 x3 (Ty.dflt TyApart)).1).length : Int) ≤ ((rd x1 x3 (Ty.dflt TyApart)).2).1) then
                some false
              else
                L_spec_GoodRoleSet_0_22 n x1 x2 (IntKind.wrap .i64 (x3 + 1)) x4
      else none
    else
      some true := by kernel_rfl
theorem S_spec_GoodRoleSet_0_9 {K0 : Option Bool} {x1 : (List DRole)} {x2 : Int} {x3 : Int} {x4 : (List (List Int))} {x7 : DRoleSet} (hl : x4.length ≤ maxLen) (hK0 : ∀  (r : Bool), K0 = some r → Ev (fun n => L_spec_GoodRoleSet_0_4 n x1 x2 (IntKind.wrap .i64 (x3 + 1)) x7) r) : ∀ (rest : List (List Int)) (k : Nat) (r : Bool), rest = x4.drop k → P_spec_GoodRoleSet_0_9 K0 rest = some r → Ev (fun n => L_spec_GoodRoleSet_0_9 n x1 x2 x3 x4 (x4.length : Int) (k : Int) x7) r := by
  intro rest
  induction rest with
  | nil =>
    intro k r hr h
    have hk := drop_nil hr
    rw [P_spec_GoodRoleSet_0_9] at h
    refine Ev.step ?_ (fun n => L_spec_GoodRoleSet_0_9_eq n x1 x2 x3 x4 (x4.length : Int) (k : Int) x7)
    rw [show decide ((k : Int) < (x4.length : Int)) = false from decide_eq_false (by omega)]
    exact Ev.neg rfl (hK0  _ h)
  | cons e rest ih =>
    intro k r hr h
    obtain ⟨hk, hx, hr2⟩ := drop_cons (d := (Ty.dflt .str)) hr
    have hw := wrap_succ hl hk
    have ih2 : ∀ (r : Bool), P_spec_GoodRoleSet_0_9 K0 rest = some r → Ev (fun n => L_spec_GoodRoleSet_0_9 n x1 x2 x3 x4 (x4.length : Int) (IntKind.wrap .i64 ((k : Int) + 1)) x7) r := by
      intro r h; rw [hw]; exact ih (k + 1) r hr2 h
    rw [P_spec_GoodRoleSet_0_9] at h
    refine Ev.step ?_ (fun n => L_spec_GoodRoleSet_0_9_eq n x1 x2 x3 x4 (x4.length : Int) (k : Int) x7)
    rw [show decide ((k : Int) < (x4.length : Int)) = true from decide_eq_true (by omega), inB_nat2 hk, hx]
    exact Ev.pos rfl (Ev.pos rfl (Ev.ofBind h fun y6 h => (Ev.ofBif h (fun h => (Ev.ofSome h)) (fun h => (ih2  _ h)))))
theorem S_spec_GoodRoleSet_0_22 {x1 : (List DApart)} {x4 : DRoleSet} (hl : x1.length ≤ maxLen) : ∀ (rest : List DApart) (k : Nat) (r : Bool), rest = x1.drop k → P_spec_GoodRoleSet_0_22 x4 rest = some r → Ev (fun n => L_spec_GoodRoleSet_0_22 n x1 (x1.length : Int) (k : Int) x4) r := by
  intro rest
  induction rest with
  | nil =>
    intro k r hr h
    have hk := drop_nil hr
    rw [P_spec_GoodRoleSet_0_22] at h
    refine Ev.step ?_ (fun n => L_spec_GoodRoleSet_0_22_eq n x1 (x1.length : Int) (k : Int) x4)
    rw [show decide ((k : Int) < (x1.length : Int)) = false from decide_eq_false (by omega)]
    exact Ev.neg rfl (Ev.ofSome h)
  | cons e rest ih =>
    intro k r hr h
    obtain ⟨hk, hx, hr2⟩ := drop_cons (d := (Ty.dflt TyApart)) hr
    have hw := wrap_succ hl hk
    have ih2 : ∀ (r : Bool), P_spec_GoodRoleSet_0_22 x4 rest = some r → Ev (fun n => L_spec_GoodRoleSet_0_22 n x1 (x1.length : Int) (IntKind.wrap .i64 ((k : Int) + 1)) x4) r := by
      intro r h; rw [hw]; exact ih (k + 1) r hr2 h
    rw [P_spec_GoodRoleSet_0_22] at h
    refine Ev.step ?_ (fun n => L_spec_GoodRoleSet_0_22_eq n x1 (x1.length : Int) (k : Int) x4)
    rw [show decide ((k : Int) < (x1.length : Int)) = true from decide_eq_true (by omega), inB_nat2 hk, hx]
    exact Ev.pos rfl (Ev.pos rfl (Ev.ofBif h (fun h => (Ev.ofSome h)) (fun h => (Ev.ofBind h fun y11 h => (Ev.ofBif h (fun h => (Ev.ofSome h)) (fun h => (Ev.ofBif h (fun h => (Ev.ofSome h)) (fun h => (Ev.ofBif h (fun h => (Ev.ofSome h)) (fun h => (ih2  _ h)))))))))))
theorem S_spec_GoodRoleSet_0_16 {x1 : (List DRole)} {x4 : DRoleSet} (hl : x1.length ≤ maxLen) : ∀ (rest : List DRole) (k : Nat) (r : Bool), rest = x1.drop k → P_spec_GoodRoleSet_0_16 x4 rest = some r → Ev (fun n => L_spec_GoodRoleSet_0_16 n x1 (x1.length : Int) (k : Int) x4) r := by
  intro rest
  induction rest with
  | nil =>
    intro k r hr h
    have hk := drop_nil hr
    rw [P_spec_GoodRoleSet_0_16] at h
    refine Ev.step ?_ (fun n => L_spec_GoodRoleSet_0_16_eq n x1 (x1.length : Int) (k : Int) x4)
    rw [show decide ((k : Int) < (x1.length : Int)) = false from decide_eq_false (by omega)]
    exact Ev.neg rfl (Ev.ofLen h fun hl h => S_spec_GoodRoleSet_0_22 hl _ (0 : Nat) _ rfl h)
  | cons e rest ih =>
    intro k r hr h
    obtain ⟨hk, hx, hr2⟩ := drop_cons (d := (Ty.dflt TyRole)) hr
    have hw := wrap_succ hl hk
    have ih2 : ∀ (r : Bool), P_spec_GoodRoleSet_0_16 x4 rest = some r → Ev (fun n => L_spec_GoodRoleSet_0_16 n x1 (x1.length : Int) (IntKind.wrap .i64 ((k : Int) + 1)) x4) r := by
      intro r h; rw [hw]; exact ih (k + 1) r hr2 h
    rw [P_spec_GoodRoleSet_0_16] at h
    refine Ev.step ?_ (fun n => L_spec_GoodRoleSet_0_16_eq n x1 (x1.length : Int) (k : Int) x4)
    rw [show decide ((k : Int) < (x1.length : Int)) = true from decide_eq_true (by omega), inB_nat2 hk, hx]
    exact Ev.pos rfl (Ev.pos rfl (Ev.ofBind h fun y9 h => (Ev.ofBind h fun y10 h => (Ev.ofBif h (fun h => (Ev.ofSome h)) (fun h => (ih2  _ h))))))
theorem S_spec_GoodRoleSet_0_4 {x1 : (List DRole)} {x4 : DRoleSet} (hl : x1.length ≤ maxLen) : ∀ (rest : List DRole) (k : Nat) (r : Bool), rest = x1.drop k → P_spec_GoodRoleSet_0_4 x4 rest k = some r → Ev (fun n => L_spec_GoodRoleSet_0_4 n x1 (x1.length : Int) (k : Int) x4) r := by
  intro rest
  induction rest with
  | nil =>
    intro k r hr h
    have hk := drop_nil hr
    rw [P_spec_GoodRoleSet_0_4] at h
    refine Ev.step ?_ (fun n => L_spec_GoodRoleSet_0_4_eq n x1 (x1.length : Int) (k : Int) x4)
    rw [show decide ((k : Int) < (x1.length : Int)) = false from decide_eq_false (by omega)]
    exact Ev.neg rfl (Ev.ofLen h fun hl h => S_spec_GoodRoleSet_0_16 hl _ (0 : Nat) _ rfl h)
  | cons e rest ih =>
    intro k r hr h
    obtain ⟨hk, hx, hr2⟩ := drop_cons (d := (Ty.dflt TyRole)) hr
    have hw := wrap_succ hl hk
    have ih2 : ∀ (r : Bool), P_spec_GoodRoleSet_0_4 x4 rest (k + 1) = some r → Ev (fun n => L_spec_GoodRoleSet_0_4 n x1 (x1.length : Int) (IntKind.wrap .i64 ((k : Int) + 1)) x4) r := by
      intro r h; rw [hw]; exact ih (k + 1) r hr2 h
    rw [P_spec_GoodRoleSet_0_4] at h
    refine Ev.step ?_ (fun n => L_spec_GoodRoleSet_0_4_eq n x1 (x1.length : Int) (k : Int) x4)
    rw [show decide ((k : Int) < (x1.length : Int)) = true from decide_eq_true (by omega), inB_nat2 hk, hx]
    exact Ev.pos rfl (Ev.pos rfl (Ev.ofBind h fun y2 h => (Ev.ofBif h (fun h => (Ev.ofSome h)) (fun h => (Ev.ofBif h (fun h => (Ev.ofBif h (fun h => (Ev.ofBind h fun y3 h => (Ev.ofBif h (fun h => (Ev.ofSome h)) (fun h => (Ev.ofBind h fun y4 h => (Ev.ofBif h (fun h => (Ev.ofSome h)) (fun h => (Ev.ofBif h (fun h => (Ev.ofSome h)) (fun h => (Ev.ofBind h fun y5 h => (Ev.ofBif h (fun h => (Ev.ofSome h)) (fun h => (Ev.ofLen h fun hl h => S_spec_GoodRoleSet_0_9 hl ih2 _ (0 : Nat) _ rfl h))))))))))))) (fun h => (Ev.ofNone h)))) (fun h => (Ev.ofBind h fun y7 h => (Ev.ofBif h (fun h => (Ev.ofSome h)) (fun h => (Ev.ofBif h (fun h => (Ev.ofSome h)) (fun h => (Ev.ofBind h fun y8 h => (Ev.ofBif h (fun h => (Ev.ofSome h)) (fun h => (Ev.ofLen h fun hl h => S_spec_GoodRoleSet_0_9 hl ih2 _ (0 : Nat) _ rfl h)))))))))))))))
theorem S_spec_GoodRoleSet (a0 : DRoleSet) {r : Bool} (h : P_spec_GoodRoleSet a0 = some r) : Ev (fun n => F_spec_GoodRoleSet n a0) r := by
  rw [P_spec_GoodRoleSet] at h
  refine Ev.of_eq ?_ (fun n => F_spec_GoodRoleSet_eq n a0)
  exact (Ev.ofBif h (fun h => (Ev.ofSome h)) (fun h => (Ev.ofBif h (fun h => (Ev.ofSome h)) (fun h => (Ev.ofBind h fun y1 h => (Ev.ofBif h (fun h => (Ev.ofSome h)) (fun h => (Ev.ofLen h fun hl h => S_spec_GoodRoleSet_0_4 hl _ (0 : Nat) _ rfl h))))))))
theorem hcs_spec_GoodRoleSet : ∀ x ∈ cs_spec_GoodRoleSet, CtrOk Try.prog x := (conOf_cons ok_spec_l15All (conOf_cons ok_spec_GoodName (conOf_cons ok_spec_l1CmpText (conOf_cons ok_spec_l3Rising (conOf_cons ok_spec_l15Under (conOf_cons ok_spec_l3Has conOf_nil))))))
theorem ok_spec_GoodRoleSet : CtrOk Try.prog c_spec_GoodRoleSet := by
  refine ctr_of_run (c := c_spec_GoodRoleSet) (by kernel_rfl) (by kernel_rfl : Try.prog.funcs[46]? = some Try.f46) (code := Try.f46.body.getD .skip) (by kernel_rfl) (by kernel_rfl) (by kernel_rfl) (A := A_spec_GoodRoleSet) (I := In_spec_GoodRoleSet) hcs_spec_GoodRoleSet ?_
  rintro ⟨a0, u⟩ y hy
  exact (S_spec_GoodRoleSet a0 hy).get

/-! ## spec.l15Small (47) -/
noncomputable def P_spec_l15Small_0_8 (x1 : Int) : List DRoleGrant → Option Bool
  | [] =>
      some (decide (x1 ≤ 300))
  | e :: rest =>
      bif decide ((((((e).2).2).2).2).1 < 0) then
        some false
      else
        bif decide ((2 : Int) < (((((e).2).2).2).2).1) then
          some false
        else
          P_spec_l15Small_0_8 x1 rest
noncomputable def P_spec_l15Small_0_3 (x5 : DRoleState) : List DRoleSession → Int → Option Bool
  | [], x1 =>
      lenOk x5.2.1 (P_spec_l15Small_0_8 x1 x5.2.1)
  | e :: rest, x1 =>
      P_spec_l15Small_0_3 x5 rest (IntKind.wrap .i64 (x1 + (IntKind.wrap .i64 ((((((e).2).2).1).length : Int) + ((((((e).2).2).2).1).length : Int)))))
noncomputable def P_spec_l15Small (a0 : DRoleState) : Option Bool :=
  lenOk a0.2.2.1 (P_spec_l15Small_0_3 a0 a0.2.2.1 (IntKind.wrap .i64 ((a0.2.1.length : Int) + (a0.2.2.1.length : Int))))
noncomputable def c_spec_l15Small : Ctr := ⟨47, [TyRoleState], [.bool], fun x => P_spec_l15Small x.1⟩
def A_spec_l15Small : List (List Nat × Ann) := [([0, 3], [.keep 0 1, .keep 0 3, .keep 0 16, .keep 0 17, .keep 0 18, .boxd 0 1 TyRoleState]), ([0, 8], [.keep 0 3, .keep 0 33, .keep 0 34, .keep 0 35])]
def In_spec_l15Small : List (List Nat × Nat) := []
noncomputable def cs_spec_l15Small : List Ctr := []
noncomputable def F_spec_l15Small (n : Nat) (a0 : DRoleState) : Option Bool := run Try.prog A_spec_l15Small In_spec_l15Small (conOf cs_spec_l15Small) Try.f47 (Try.f47.body.getD .skip) (packT [.bool]) n (argsV [TyRoleState] (a0, ()))
noncomputable abbrev L_spec_l15Small_0_3 (n : Nat) (x1 : Int) (x2 : (List DRoleSession)) (x3 : Int) (x4 : Int) (x5 : DRoleState) : Option Bool := lam Try.prog A_spec_l15Small In_spec_l15Small (conOf cs_spec_l15Small) Try.f47 (Try.f47.body.getD .skip) (packT [.bool]) n [0, 3] [.ptr 0 1 0, .d I64 x1, .d (.list TyRoleSession) x2, .d I64 x3, .d I64 x4, .agg (explode TyRoleState x5)]
noncomputable abbrev L_spec_l15Small_0_8 (n : Nat) (x1 : Int) (x2 : (List DRoleGrant)) (x3 : Int) (x4 : Int) : Option Bool := lam Try.prog A_spec_l15Small In_spec_l15Small (conOf cs_spec_l15Small) Try.f47 (Try.f47.body.getD .skip) (packT [.bool]) n [0, 8] [.d I64 x1, .d (.list TyRoleGrant) x2, .d I64 x3, .d I64 x4]
theorem F_spec_l15Small_eq (n : Nat) (a0 : DRoleState) : F_spec_l15Small n a0 =
    L_spec_l15Small_0_3 n (IntKind.wrap .i64 ((a0.2.1.length : Int) + (a0.2.2.1.length : Int))) a0.2.2.1 (a0.2.2.1.length : Int) 0 a0 := by kernel_rfl
theorem L_spec_l15Small_0_3_eq (n : Nat) (x1 : Int) (x2 : (List DRoleSession)) (x3 : Int) (x4 : Int) (x5 : DRoleState) : L_spec_l15Small_0_3 (n + 1) x1 x2 x3 x4 x5 =
    bif decide (x4 < x3) then
      bif inB x4 x2.length then
        L_spec_l15Small_0_3 n (IntKind.wrap .i64 (x1 + (IntKind.wrap .i64 ((((((rd x2 x4 (Ty.dflt TyRoleSession)).2).2).1).length : Int) + ((((((rd x2 x4 (Ty.dflt TyRoleSession)).2).2).2).1).length : Int))))) x2 x3 (IntKind.wrap .i64 (x4 + 1)) x5
      else none
    else
      L_spec_l15Small_0_8 n x1 x5.2.1 (x5.2.1.length : Int) 0 := by kernel_rfl
theorem L_spec_l15Small_0_8_eq (n : Nat) (x1 : Int) (x2 : (List DRoleGrant)) (x3 : Int) (x4 : Int) : L_spec_l15Small_0_8 (n + 1) x1 x2 x3 x4 =
    bif decide (x4 < x3) then
      bif inB x4 x2.length then
        bif decide ((((((rd x2 x4 (Ty.dflt TyRoleGrant)).2).2).2).2).1 < 0) then
          some false
        else
          bif decide ((2 : Int) < (((((rd x2 x4 (Ty.dflt TyRoleGrant)).2).2).2).2).1) then
            some false
          else
            L_spec_l15Small_0_8 n x1 x2 x3 (IntKind.wrap .i64 (x4 + 1))
      else none
    else
      some (decide (x1 ≤ 300)) := by kernel_rfl
theorem S_spec_l15Small_0_8 {x1 : Int} {x2 : (List DRoleGrant)} (hl : x2.length ≤ maxLen) : ∀ (rest : List DRoleGrant) (k : Nat) (r : Bool), rest = x2.drop k → P_spec_l15Small_0_8 x1 rest = some r → Ev (fun n => L_spec_l15Small_0_8 n x1 x2 (x2.length : Int) (k : Int)) r := by
  intro rest
  induction rest with
  | nil =>
    intro k r hr h
    have hk := drop_nil hr
    rw [P_spec_l15Small_0_8] at h
    refine Ev.step ?_ (fun n => L_spec_l15Small_0_8_eq n x1 x2 (x2.length : Int) (k : Int))
    rw [show decide ((k : Int) < (x2.length : Int)) = false from decide_eq_false (by omega)]
    exact Ev.neg rfl (Ev.ofSome h)
  | cons e rest ih =>
    intro k r hr h
    obtain ⟨hk, hx, hr2⟩ := drop_cons (d := (Ty.dflt TyRoleGrant)) hr
    have hw := wrap_succ hl hk
    have ih2 : ∀ (r : Bool), P_spec_l15Small_0_8 x1 rest = some r → Ev (fun n => L_spec_l15Small_0_8 n x1 x2 (x2.length : Int) (IntKind.wrap .i64 ((k : Int) + 1))) r := by
      intro r h; rw [hw]; exact ih (k + 1) r hr2 h
    rw [P_spec_l15Small_0_8] at h
    refine Ev.step ?_ (fun n => L_spec_l15Small_0_8_eq n x1 x2 (x2.length : Int) (k : Int))
    rw [show decide ((k : Int) < (x2.length : Int)) = true from decide_eq_true (by omega), inB_nat2 hk, hx]
    exact Ev.pos rfl (Ev.pos rfl (Ev.ofBif h (fun h => (Ev.ofSome h)) (fun h => (Ev.ofBif h (fun h => (Ev.ofSome h)) (fun h => (ih2  _ h))))))
theorem S_spec_l15Small_0_3 {x2 : (List DRoleSession)} {x5 : DRoleState} (hl : x2.length ≤ maxLen) : ∀ (rest : List DRoleSession) (k : Nat) (x1 : Int) (r : Bool), rest = x2.drop k → P_spec_l15Small_0_3 x5 rest x1 = some r → Ev (fun n => L_spec_l15Small_0_3 n x1 x2 (x2.length : Int) (k : Int) x5) r := by
  intro rest
  induction rest with
  | nil =>
    intro k x1 r hr h
    have hk := drop_nil hr
    rw [P_spec_l15Small_0_3] at h
    refine Ev.step ?_ (fun n => L_spec_l15Small_0_3_eq n x1 x2 (x2.length : Int) (k : Int) x5)
    rw [show decide ((k : Int) < (x2.length : Int)) = false from decide_eq_false (by omega)]
    exact Ev.neg rfl (Ev.ofLen h fun hl h => S_spec_l15Small_0_8 hl _ (0 : Nat) _ rfl h)
  | cons e rest ih =>
    intro k x1 r hr h
    obtain ⟨hk, hx, hr2⟩ := drop_cons (d := (Ty.dflt TyRoleSession)) hr
    have hw := wrap_succ hl hk
    have ih2 : ∀ (z1 : Int) (r : Bool), P_spec_l15Small_0_3 x5 rest z1 = some r → Ev (fun n => L_spec_l15Small_0_3 n z1 x2 (x2.length : Int) (IntKind.wrap .i64 ((k : Int) + 1)) x5) r := by
      intro z1 r h; rw [hw]; exact ih (k + 1) z1 r hr2 h
    rw [P_spec_l15Small_0_3] at h
    refine Ev.step ?_ (fun n => L_spec_l15Small_0_3_eq n x1 x2 (x2.length : Int) (k : Int) x5)
    rw [show decide ((k : Int) < (x2.length : Int)) = true from decide_eq_true (by omega), inB_nat2 hk, hx]
    exact Ev.pos rfl (Ev.pos rfl (ih2 _ _ h))
theorem S_spec_l15Small (a0 : DRoleState) {r : Bool} (h : P_spec_l15Small a0 = some r) : Ev (fun n => F_spec_l15Small n a0) r := by
  rw [P_spec_l15Small] at h
  refine Ev.of_eq ?_ (fun n => F_spec_l15Small_eq n a0)
  exact (Ev.ofLen h fun hl h => S_spec_l15Small_0_3 hl _ (0 : Nat) _ _ rfl h)
theorem hcs_spec_l15Small : ∀ x ∈ cs_spec_l15Small, CtrOk Try.prog x := conOf_nil
theorem ok_spec_l15Small : CtrOk Try.prog c_spec_l15Small := by
  refine ctr_of_run (c := c_spec_l15Small) (by kernel_rfl) (by kernel_rfl : Try.prog.funcs[47]? = some Try.f47) (code := Try.f47.body.getD .skip) (by kernel_rfl) (by kernel_rfl) (by kernel_rfl) (A := A_spec_l15Small) (I := In_spec_l15Small) hcs_spec_l15Small ?_
  rintro ⟨a0, u⟩ y hy
  exact (S_spec_l15Small a0 hy).get

/-! ## spec.l15Lesser (154) -/
def T_spec_l15Lesser (a0 : Int) (a1 : Int) : Int :=
  bif decide (a0 < a1) then
    a0
  else
    a1
noncomputable def c_spec_l15Lesser : Ctr := ⟨154, [I64, I64], [I64], fun x => some (T_spec_l15Lesser x.1 x.2.1)⟩
def A_spec_l15Lesser : List (List Nat × Ann) := []
def In_spec_l15Lesser : List (List Nat × Nat) := []
noncomputable def cs_spec_l15Lesser : List Ctr := []
noncomputable def F_spec_l15Lesser (n : Nat) (a0 : Int) (a1 : Int) : Option Int := run Try.prog A_spec_l15Lesser In_spec_l15Lesser (conOf cs_spec_l15Lesser) Try.f154 (Try.f154.body.getD .skip) (packT [I64]) n (argsV [I64, I64] (a0, a1, ()))
theorem F_spec_l15Lesser_eq (n : Nat) (a0 : Int) (a1 : Int) : F_spec_l15Lesser n a0 a1 =
    bif decide (a0 < a1) then
      some a0
    else
      some a1 := by kernel_rfl
theorem S_spec_l15Lesser (n : Nat) (a0 : Int) (a1 : Int) : F_spec_l15Lesser n a0 a1 = some (T_spec_l15Lesser a0 a1) := (F_spec_l15Lesser_eq n a0 a1).trans (cond_some rfl rfl)
theorem hcs_spec_l15Lesser : ∀ x ∈ cs_spec_l15Lesser, CtrOk Try.prog x := conOf_nil
theorem ok_spec_l15Lesser : CtrOk Try.prog c_spec_l15Lesser := by
  refine ctr_of_run (c := c_spec_l15Lesser) (by kernel_rfl) (by kernel_rfl : Try.prog.funcs[154]? = some Try.f154) (code := Try.f154.body.getD .skip) (by kernel_rfl) (by kernel_rfl) (by kernel_rfl) (A := A_spec_l15Lesser) (I := In_spec_l15Lesser) hcs_spec_l15Lesser ?_
  rintro ⟨a0, a1, u⟩ y hy
  exact ⟨0, (S_spec_l15Lesser 0 a0 a1).trans hy⟩

/-! ## spec.l15Counts (104) -/
noncomputable def P_spec_l15Counts_0_2 (Rc : (List DRoleGrant) → (List Int) → (List Int) → Int → Int → Option Bool) (x1 : (List DRoleGrant)) (x2 : (List Int)) (x3 : (List Int)) (x4 : Int) (x5 : Int) : List DRoleGrant → Option Bool
  | [] =>
      some false
  | e :: rest =>
      bif decide ((e).1 = x2) then
        bif decide (((e).2).1 = x3) then
          bif decide ((((((e).2).2).2).2).1 < x4) then
            bif decide (x5 ≤ ((((e).2).2).2).1) then
              bif decide ((((e).2).2).1 = ([] : List Int)) then
                some true
              else
                Option.bind (Rc x1 ((((e).2).2).1) x3 (T_spec_l15Lesser ((((((e).2).2).2).2).1) x4) x5) fun (y1 : Bool) =>
                bif y1 then
                  some true
                else
                  P_spec_l15Counts_0_2 Rc x1 x2 x3 x4 x5 rest
            else
              P_spec_l15Counts_0_2 Rc x1 x2 x3 x4 x5 rest
          else
            P_spec_l15Counts_0_2 Rc x1 x2 x3 x4 x5 rest
        else
          P_spec_l15Counts_0_2 Rc x1 x2 x3 x4 x5 rest
      else
        P_spec_l15Counts_0_2 Rc x1 x2 x3 x4 x5 rest
noncomputable def P_spec_l15Counts (Rc : (List DRoleGrant) → (List Int) → (List Int) → Int → Int → Option Bool) (a0 : (List DRoleGrant)) (a1 : (List Int)) (a2 : (List Int)) (a3 : Int) (a4 : Int) : Option Bool :=
  lenOk a0 (P_spec_l15Counts_0_2 Rc a0 a1 a2 a3 a4 a0)
noncomputable def R_spec_l15Counts : Nat → (List DRoleGrant) → (List Int) → (List Int) → Int → Int → Option Bool
  | 0 => fun _ _ _ _ _ => none
  | d + 1 => fun a0 a1 a2 a3 a4 => P_spec_l15Counts (R_spec_l15Counts d) a0 a1 a2 a3 a4
noncomputable def E_spec_l15Counts (a0 : (List DRoleGrant)) (a1 : (List Int)) (a2 : (List Int)) (a3 : Int) (a4 : Int) : Option Bool := evOpt fun d => R_spec_l15Counts d a0 a1 a2 a3 a4
noncomputable def c_spec_l15Counts : Ctr := ⟨104, [(.list TyRoleGrant), .str, .str, I64, I64], [.bool], fun x => E_spec_l15Counts x.1 x.2.1 x.2.2.1 x.2.2.2.1 x.2.2.2.2.1⟩
def A_spec_l15Counts : List (List Nat × Ann) := [([0, 2], [.keep 0 0, .keep 0 1, .keep 0 2, .keep 0 3, .keep 0 4, .keep 0 13, .keep 0 14, .keep 0 15])]
def In_spec_l15Counts : List (List Nat × Nat) := []
noncomputable def cs_spec_l15Counts (Rc : (List DRoleGrant) → (List Int) → (List Int) → Int → Int → Option Bool) : List Ctr := [c_spec_l15Lesser, ⟨104, [(.list TyRoleGrant), .str, .str, I64, I64], [.bool], fun x => Rc x.1 x.2.1 x.2.2.1 x.2.2.2.1 x.2.2.2.2.1⟩]
noncomputable def F_spec_l15Counts (Rc : (List DRoleGrant) → (List Int) → (List Int) → Int → Int → Option Bool) (n : Nat) (a0 : (List DRoleGrant)) (a1 : (List Int)) (a2 : (List Int)) (a3 : Int) (a4 : Int) : Option Bool := run Try.prog A_spec_l15Counts In_spec_l15Counts (conOf (cs_spec_l15Counts Rc)) Try.f104 (Try.f104.body.getD .skip) (packT [.bool]) n (argsV [(.list TyRoleGrant), .str, .str, I64, I64] (a0, a1, a2, a3, a4, ()))
noncomputable abbrev L_spec_l15Counts_0_2 (Rc : (List DRoleGrant) → (List Int) → (List Int) → Int → Int → Option Bool) (n : Nat) (x1 : (List DRoleGrant)) (x2 : (List Int)) (x3 : (List Int)) (x4 : Int) (x5 : Int) (x6 : (List DRoleGrant)) (x7 : Int) (x8 : Int) : Option Bool := lam Try.prog A_spec_l15Counts In_spec_l15Counts (conOf (cs_spec_l15Counts Rc)) Try.f104 (Try.f104.body.getD .skip) (packT [.bool]) n [0, 2] [.d (.list TyRoleGrant) x1, .d .str x2, .d .str x3, .d I64 x4, .d I64 x5, .d (.list TyRoleGrant) x6, .d I64 x7, .d I64 x8]
theorem F_spec_l15Counts_eq (Rc : (List DRoleGrant) → (List Int) → (List Int) → Int → Int → Option Bool) (n : Nat) (a0 : (List DRoleGrant)) (a1 : (List Int)) (a2 : (List Int)) (a3 : Int) (a4 : Int) : F_spec_l15Counts Rc n a0 a1 a2 a3 a4 =
    L_spec_l15Counts_0_2 Rc n a0 a1 a2 a3 a4 a0 (a0.length : Int) 0 := by kernel_rfl
theorem L_spec_l15Counts_0_2_eq (Rc : (List DRoleGrant) → (List Int) → (List Int) → Int → Int → Option Bool) (n : Nat) (x1 : (List DRoleGrant)) (x2 : (List Int)) (x3 : (List Int)) (x4 : Int) (x5 : Int) (x6 : (List DRoleGrant)) (x7 : Int) (x8 : Int) : L_spec_l15Counts_0_2 Rc (n + 1) x1 x2 x3 x4 x5 x6 x7 x8 =
    bif decide (x8 < x7) then
      bif inB x8 x6.length then
        bif decide ((rd x6 x8 (Ty.dflt TyRoleGrant)).1 = x2) then
          bif decide (((rd x6 x8 (Ty.dflt TyRoleGrant)).2).1 = x3) then
            bif decide ((((((rd x6 x8 (Ty.dflt TyRoleGrant)).2).2).2).2).1 < x4) then
              bif decide (x5 ≤ ((((rd x6 x8 (Ty.dflt TyRoleGrant)).2).2).2).1) then
                bif decide ((((rd x6 x8 (Ty.dflt TyRoleGrant)).2).2).1 = ([] : List Int)) then
                  some true
                else
                  Option.bind (Rc x1 ((((rd x6 x8 (Ty.dflt TyRoleGrant)).2).2).1) x3 (T_spec_l15Lesser ((((((rd x6 x8 (Ty.dflt TyRoleGrant)).2).2).2).2).1) x4) x5) fun (y1 : Bool) =>
                  bif y1 then
                    some true
                  else
                    L_spec_l15Counts_0_2 Rc n x1 x2 x3 x4 x5 x6 x7 (IntKind.wrap .i64 (x8 + 1))
              else
                L_spec_l15Counts_0_2 Rc n x1 x2 x3 x4 x5 x6 x7 (IntKind.wrap .i64 (x8 + 1))
            else
              L_spec_l15Counts_0_2 Rc n x1 x2 x3 x4 x5 x6 x7 (IntKind.wrap .i64 (x8 + 1))
          else
            L_spec_l15Counts_0_2 Rc n x1 x2 x3 x4 x5 x6 x7 (IntKind.wrap .i64 (x8 + 1))
        else
          L_spec_l15Counts_0_2 Rc n x1 x2 x3 x4 x5 x6 x7 (IntKind.wrap .i64 (x8 + 1))
      else none
    else
      some false := by kernel_rfl
theorem S_spec_l15Counts_0_2 {Rc : (List DRoleGrant) → (List Int) → (List Int) → Int → Int → Option Bool} {x1 : (List DRoleGrant)} {x2 : (List Int)} {x3 : (List Int)} {x4 : Int} {x5 : Int} (hl : x1.length ≤ maxLen) : ∀ (rest : List DRoleGrant) (k : Nat) (r : Bool), rest = x1.drop k → P_spec_l15Counts_0_2 Rc x1 x2 x3 x4 x5 rest = some r → Ev (fun n => L_spec_l15Counts_0_2 Rc n x1 x2 x3 x4 x5 x1 (x1.length : Int) (k : Int)) r := by
  intro rest
  induction rest with
  | nil =>
    intro k r hr h
    have hk := drop_nil hr
    rw [P_spec_l15Counts_0_2] at h
    refine Ev.step ?_ (fun n => L_spec_l15Counts_0_2_eq Rc n x1 x2 x3 x4 x5 x1 (x1.length : Int) (k : Int))
    rw [show decide ((k : Int) < (x1.length : Int)) = false from decide_eq_false (by omega)]
    exact Ev.neg rfl (Ev.ofSome h)
  | cons e rest ih =>
    intro k r hr h
    obtain ⟨hk, hx, hr2⟩ := drop_cons (d := (Ty.dflt TyRoleGrant)) hr
    have hw := wrap_succ hl hk
    have ih2 : ∀ (r : Bool), P_spec_l15Counts_0_2 Rc x1 x2 x3 x4 x5 rest = some r → Ev (fun n => L_spec_l15Counts_0_2 Rc n x1 x2 x3 x4 x5 x1 (x1.length : Int) (IntKind.wrap .i64 ((k : Int) + 1))) r := by
      intro r h; rw [hw]; exact ih (k + 1) r hr2 h
    rw [P_spec_l15Counts_0_2] at h
    refine Ev.step ?_ (fun n => L_spec_l15Counts_0_2_eq Rc n x1 x2 x3 x4 x5 x1 (x1.length : Int) (k : Int))
    rw [show decide ((k : Int) < (x1.length : Int)) = true from decide_eq_true (by omega), inB_nat2 hk, hx]
    exact Ev.pos rfl (Ev.pos rfl (Ev.ofBif h (fun h => (Ev.ofBif h (fun h => (Ev.ofBif h (fun h => (Ev.ofBif h (fun h => (Ev.ofBif h (fun h => (Ev.ofSome h)) (fun h => (Ev.ofBind h fun y1 h => (Ev.ofBif h (fun h => (Ev.ofSome h)) (fun h => (ih2  _ h))))))) (fun h => (ih2  _ h)))) (fun h => (ih2  _ h)))) (fun h => (ih2  _ h)))) (fun h => (ih2  _ h))))
theorem S_spec_l15Counts {Rc : (List DRoleGrant) → (List Int) → (List Int) → Int → Int → Option Bool} (a0 : (List DRoleGrant)) (a1 : (List Int)) (a2 : (List Int)) (a3 : Int) (a4 : Int) {r : Bool} (h : P_spec_l15Counts Rc a0 a1 a2 a3 a4 = some r) : Ev (fun n => F_spec_l15Counts Rc n a0 a1 a2 a3 a4) r := by
  rw [P_spec_l15Counts] at h
  refine Ev.of_eq ?_ (fun n => F_spec_l15Counts_eq Rc n a0 a1 a2 a3 a4)
  exact (Ev.ofLen h fun hl h => S_spec_l15Counts_0_2 hl _ (0 : Nat) _ rfl h)
theorem okR_spec_l15Counts : ∀ d, CtrOk Try.prog (⟨104, [(.list TyRoleGrant), .str, .str, I64, I64], [.bool], fun x => R_spec_l15Counts d x.1 x.2.1 x.2.2.1 x.2.2.2.1 x.2.2.2.2.1⟩ : Ctr) := by
  intro d
  induction d with
  | zero => intro xs y hy; exact (nomatch (show (none : Option Bool) = some y from hy))
  | succ d ih =>
    refine ctr_of_run (by kernel_rfl) (by kernel_rfl : Try.prog.funcs[104]? = some Try.f104) (code := Try.f104.body.getD .skip) (by kernel_rfl) (by kernel_rfl) (by kernel_rfl) (A := A_spec_l15Counts) (I := In_spec_l15Counts) (cs := cs_spec_l15Counts (R_spec_l15Counts d)) (conOf_cons ok_spec_l15Lesser (conOf_cons ih conOf_nil)) ?_
    rintro ⟨a0, a1, a2, a3, a4, u⟩ y hy
    exact (S_spec_l15Counts a0 a1 a2 a3 a4 hy).get
theorem ok_spec_l15Counts : CtrOk Try.prog c_spec_l15Counts := by
  rintro ⟨a0, a1, a2, a3, a4, u⟩ y hy
  obtain ⟨d, hd⟩ := (evOpt_get hy).get
  exact okR_spec_l15Counts d (a0, a1, a2, a3, a4, u) y hd

/-! ## spec.l15Authorised (50) -/
noncomputable def P_spec_l15Authorised_1_7 (K0 : (List (List Int)) → Option (List (List Int))) (x1 : (List DRoleGrant)) (x3 : Int) (x4 : Bool) (x5 : (List (List Int))) (x10 : DRoleGrant) : Option (List (List Int)) :=
  bif x4 then
    bif decide (((x5.length : Int) + (([x10.2.1] : List (List Int)).length : Int)) * 16 ≤ room) && decide ((x5.length : Int) + (([x10.2.1] : List (List Int)).length : Int) ≤ room) then
      K0 (x5 ++ ([x10.2.1] : List (List Int)))
    else none
  else
    bif decide (x10.2.2.1 = ([] : List Int)) then
      bif decide (((x5.length : Int) + (([x10.2.1] : List (List Int)).length : Int)) * 16 ≤ room) && decide ((x5.length : Int) + (([x10.2.1] : List (List Int)).length : Int) ≤ room) then
        K0 (x5 ++ ([x10.2.1] : List (List Int)))
      else none
    else
      Option.bind (E_spec_l15Counts x1 x10.2.2.1 x10.2.1 x10.2.2.2.2.1 x3) fun (y2 : Bool) =>
      bif y2 then
        bif decide (((x5.length : Int) + (([x10.2.1] : List (List Int)).length : Int)) * 16 ≤ room) && decide ((x5.length : Int) + (([x10.2.1] : List (List Int)).length : Int) ≤ room) then
          K0 (x5 ++ ([x10.2.1] : List (List Int)))
        else none
      else
        K0 x5
noncomputable def P_spec_l15Authorised_0_3 (x1 : (List DRoleGrant)) (x2 : (List Int)) (x3 : Int) (x4 : Bool) (x9 : DRoleSet) : List DRoleGrant → (List (List Int)) → Option (List (List Int))
  | [], x5 =>
      Option.bind (E_spec_l15Under x9 x5) fun (y3 : (List (List Int))) =>
      some y3
  | e :: rest, x5 =>
      Option.bind (P_spec_l15Role x9 (((e).2).1)) fun (y1 : (DRole × Bool)) =>
      bif !(y1.2) then
        P_spec_l15Authorised_0_3 x1 x2 x3 x4 x9 rest x5
      else
        bif !decide ((e).1 = x2) then
          P_spec_l15Authorised_0_3 x1 x2 x3 x4 x9 rest x5
        else
          bif decide (((((e).2).2).2).1 < x3) then
            P_spec_l15Authorised_0_3 x1 x2 x3 x4 x9 rest x5
          else
            P_spec_l15Authorised_1_7 (fun s0 => P_spec_l15Authorised_0_3 x1 x2 x3 x4 x9 rest s0) x1 x3 x4 x5 (e)
noncomputable def P_spec_l15Authorised (a0 : DRoleSet) (a1 : (List DRoleGrant)) (a2 : (List Int)) (a3 : Int) (a4 : Bool) : Option (List (List Int)) :=
  lenOk a1 (P_spec_l15Authorised_0_3 a1 a2 a3 a4 a0 a1 [])
noncomputable def c_spec_l15Authorised : Ctr := ⟨50, [TyRoleSet, (.list TyRoleGrant), .str, I64, .bool], [(.list .str)], fun x => P_spec_l15Authorised x.1 x.2.1 x.2.2.1 x.2.2.2.1 x.2.2.2.2.1⟩
def A_spec_l15Authorised : List (List Nat × Ann) := [([0, 3], [.keep 0 1, .keep 0 2, .keep 0 3, .keep 0 4, .keep 0 5, .own 0 11 .str, .keep 0 16, .keep 0 17, .keep 0 18, .boxd 0 5 TyRoleSet]), ([1, 7], [.keep 0 1, .keep 0 2, .keep 0 3, .keep 0 4, .keep 0 5, .own 0 11 .str, .keep 0 13, .keep 0 16, .keep 0 17, .keep 0 18, .boxd 0 5 TyRoleSet, .boxd 0 13 TyRoleGrant])]
def In_spec_l15Authorised : List (List Nat × Nat) := []
noncomputable def cs_spec_l15Authorised : List Ctr := [c_spec_l15Role, c_spec_l15Counts, c_spec_l15Under]
noncomputable def F_spec_l15Authorised (n : Nat) (a0 : DRoleSet) (a1 : (List DRoleGrant)) (a2 : (List Int)) (a3 : Int) (a4 : Bool) : Option (List (List Int)) := run Try.prog A_spec_l15Authorised In_spec_l15Authorised (conOf cs_spec_l15Authorised) Try.f50 (Try.f50.body.getD .skip) (packT [(.list .str)]) n (argsV [TyRoleSet, (.list TyRoleGrant), .str, I64, .bool] (a0, a1, a2, a3, a4, ()))
noncomputable abbrev L_spec_l15Authorised_0_3 (n : Nat) (x1 : (List DRoleGrant)) (x2 : (List Int)) (x3 : Int) (x4 : Bool) (x5 : (List (List Int))) (x6 : (List DRoleGrant)) (x7 : Int) (x8 : Int) (x9 : DRoleSet) : Option (List (List Int)) := lam Try.prog A_spec_l15Authorised In_spec_l15Authorised (conOf cs_spec_l15Authorised) Try.f50 (Try.f50.body.getD .skip) (packT [(.list .str)]) n [0, 3] [.d (.list TyRoleGrant) x1, .d .str x2, .d I64 x3, .d .bool x4, .ptr 0 5 0, .own 0 .str x5, .d (.list TyRoleGrant) x6, .d I64 x7, .d I64 x8, .agg (explode TyRoleSet x9)]
noncomputable abbrev L_spec_l15Authorised_1_7 (n : Nat) (x1 : (List DRoleGrant)) (x2 : (List Int)) (x3 : Int) (x4 : Bool) (x5 : (List (List Int))) (x6 : (List DRoleGrant)) (x7 : Int) (x8 : Int) (x9 : DRoleSet) (x10 : DRoleGrant) : Option (List (List Int)) := lam Try.prog A_spec_l15Authorised In_spec_l15Authorised (conOf cs_spec_l15Authorised) Try.f50 (Try.f50.body.getD .skip) (packT [(.list .str)]) n [1, 7] [.d (.list TyRoleGrant) x1, .d .str x2, .d I64 x3, .d .bool x4, .ptr 0 5 0, .own 0 .str x5, .ptr 0 13 0, .d (.list TyRoleGrant) x6, .d I64 x7, .d I64 x8, .agg (explode TyRoleSet x9), .agg (explode TyRoleGrant x10)]
theorem F_spec_l15Authorised_eq (n : Nat) (a0 : DRoleSet) (a1 : (List DRoleGrant)) (a2 : (List Int)) (a3 : Int) (a4 : Bool) : F_spec_l15Authorised n a0 a1 a2 a3 a4 =
    L_spec_l15Authorised_0_3 n a1 a2 a3 a4 [] a1 (a1.length : Int) 0 a0 := by kernel_rfl
theorem L_spec_l15Authorised_0_3_eq (n : Nat) (x1 : (List DRoleGrant)) (x2 : (List Int)) (x3 : Int) (x4 : Bool) (x5 : (List (List Int))) (x6 : (List DRoleGrant)) (x7 : Int) (x8 : Int) (x9 : DRoleSet) : L_spec_l15Authorised_0_3 (n + 1) x1 x2 x3 x4 x5 x6 x7 x8 x9 =
    bif decide (x8 < x7) then
      bif inB x8 x6.length then
        Option.bind (P_spec_l15Role x9 (((rd x6 x8 (Ty.dflt TyRoleGrant)).2).1)) fun (y1 : (DRole × Bool)) =>
        bif !(y1.2) then
          L_spec_l15Authorised_0_3 n x1 x2 x3 x4 x5 x6 x7 (IntKind.wrap .i64 (x8 + 1)) x9
        else
          bif !decide ((rd x6 x8 (Ty.dflt TyRoleGrant)).1 = x2) then
            L_spec_l15Authorised_0_3 n x1 x2 x3 x4 x5 x6 x7 (IntKind.wrap .i64 (x8 + 1)) x9
          else
            bif decide (((((rd x6 x8 (Ty.dflt TyRoleGrant)).2).2).2).1 < x3) then
              L_spec_l15Authorised_0_3 n x1 x2 x3 x4 x5 x6 x7 (IntKind.wrap .i64 (x8 + 1)) x9
            else
              L_spec_l15Authorised_1_7 n x1 x2 x3 x4 x5 x6 x7 x8 x9 (rd x6 x8 (Ty.dflt TyRoleGrant))
      else none
    else
      Option.bind (E_spec_l15Under x9 x5) fun (y3 : (List (List Int))) =>
      some y3 := by kernel_rfl
theorem L_spec_l15Authorised_1_7_eq (n : Nat) (x1 : (List DRoleGrant)) (x2 : (List Int)) (x3 : Int) (x4 : Bool) (x5 : (List (List Int))) (x6 : (List DRoleGrant)) (x7 : Int) (x8 : Int) (x9 : DRoleSet) (x10 : DRoleGrant) : L_spec_l15Authorised_1_7 (n + 1) x1 x2 x3 x4 x5 x6 x7 x8 x9 x10 =
    bif x4 then
      bif decide (((x5.length : Int) + (([x10.2.1] : List (List Int)).length : Int)) * 16 ≤ room) && decide ((x5.length : Int) + (([x10.2.1] : List (List Int)).length : Int) ≤ room) then
        L_spec_l15Authorised_0_3 n x1 x2 x3 x4 (x5 ++ ([x10.2.1] : List (List Int))) x6 x7 (IntKind.wrap .i64 (x8 + 1)) x9
      else none
    else
      bif decide (x10.2.2.1 = ([] : List Int)) then
        bif decide (((x5.length : Int) + (([x10.2.1] : List (List Int)).length : Int)) * 16 ≤ room) && decide ((x5.length : Int) + (([x10.2.1] : List (List Int)).length : Int) ≤ room) then
          L_spec_l15Authorised_0_3 n x1 x2 x3 x4 (x5 ++ ([x10.2.1] : List (List Int))) x6 x7 (IntKind.wrap .i64 (x8 + 1)) x9
        else none
      else
        Option.bind (E_spec_l15Counts x1 x10.2.2.1 x10.2.1 x10.2.2.2.2.1 x3) fun (y2 : Bool) =>
        bif y2 then
          bif decide (((x5.length : Int) + (([x10.2.1] : List (List Int)).length : Int)) * 16 ≤ room) && decide ((x5.length : Int) + (([x10.2.1] : List (List Int)).length : Int) ≤ room) then
            L_spec_l15Authorised_0_3 n x1 x2 x3 x4 (x5 ++ ([x10.2.1] : List (List Int))) x6 x7 (IntKind.wrap .i64 (x8 + 1)) x9
          else none
        else
          L_spec_l15Authorised_0_3 n x1 x2 x3 x4 x5 x6 x7 (IntKind.wrap .i64 (x8 + 1)) x9 := by kernel_rfl
theorem S_spec_l15Authorised_1_7 {K0 : (List (List Int)) → Option (List (List Int))} {x1 : (List DRoleGrant)} {x2 : (List Int)} {x3 : Int} {x4 : Bool} {x5 : (List (List Int))} {x7 : Int} {x8 : Int} {x9 : DRoleSet} {x10 : DRoleGrant} (hK0 : ∀ (z5 : (List (List Int))) (r : (List (List Int))), K0 z5 = some r → Ev (fun n => L_spec_l15Authorised_0_3 n x1 x2 x3 x4 z5 x1 x7 (IntKind.wrap .i64 (x8 + 1)) x9) r) {r : (List (List Int))} (h : P_spec_l15Authorised_1_7 K0 x1 x3 x4 x5 x10 = some r) : Ev (fun n => L_spec_l15Authorised_1_7 n x1 x2 x3 x4 x5 x1 x7 x8 x9 x10) r := by
  rw [P_spec_l15Authorised_1_7] at h
  refine Ev.step ?_ (fun n => L_spec_l15Authorised_1_7_eq n x1 x2 x3 x4 x5 x1 x7 x8 x9 x10)
  exact (Ev.ofBif h (fun h => (Ev.ofBif h (fun h => (hK0 _ _ h)) (fun h => (Ev.ofNone h)))) (fun h => (Ev.ofBif h (fun h => (Ev.ofBif h (fun h => (hK0 _ _ h)) (fun h => (Ev.ofNone h)))) (fun h => (Ev.ofBind h fun y2 h => (Ev.ofBif h (fun h => (Ev.ofBif h (fun h => (hK0 _ _ h)) (fun h => (Ev.ofNone h)))) (fun h => (hK0 _ _ h))))))))
theorem S_spec_l15Authorised_0_3 {x1 : (List DRoleGrant)} {x2 : (List Int)} {x3 : Int} {x4 : Bool} {x9 : DRoleSet} (hl : x1.length ≤ maxLen) : ∀ (rest : List DRoleGrant) (k : Nat) (x5 : (List (List Int))) (r : (List (List Int))), rest = x1.drop k → P_spec_l15Authorised_0_3 x1 x2 x3 x4 x9 rest x5 = some r → Ev (fun n => L_spec_l15Authorised_0_3 n x1 x2 x3 x4 x5 x1 (x1.length : Int) (k : Int) x9) r := by
  intro rest
  induction rest with
  | nil =>
    intro k x5 r hr h
    have hk := drop_nil hr
    rw [P_spec_l15Authorised_0_3] at h
    refine Ev.step ?_ (fun n => L_spec_l15Authorised_0_3_eq n x1 x2 x3 x4 x5 x1 (x1.length : Int) (k : Int) x9)
    rw [show decide ((k : Int) < (x1.length : Int)) = false from decide_eq_false (by omega)]
    exact Ev.neg rfl (Ev.ofBind h fun y3 h => (Ev.ofSome h))
  | cons e rest ih =>
    intro k x5 r hr h
    obtain ⟨hk, hx, hr2⟩ := drop_cons (d := (Ty.dflt TyRoleGrant)) hr
    have hw := wrap_succ hl hk
    have ih2 : ∀ (z5 : (List (List Int))) (r : (List (List Int))), P_spec_l15Authorised_0_3 x1 x2 x3 x4 x9 rest z5 = some r → Ev (fun n => L_spec_l15Authorised_0_3 n x1 x2 x3 x4 z5 x1 (x1.length : Int) (IntKind.wrap .i64 ((k : Int) + 1)) x9) r := by
      intro z5 r h; rw [hw]; exact ih (k + 1) z5 r hr2 h
    rw [P_spec_l15Authorised_0_3] at h
    refine Ev.step ?_ (fun n => L_spec_l15Authorised_0_3_eq n x1 x2 x3 x4 x5 x1 (x1.length : Int) (k : Int) x9)
    rw [show decide ((k : Int) < (x1.length : Int)) = true from decide_eq_true (by omega), inB_nat2 hk, hx]
    exact Ev.pos rfl (Ev.pos rfl (Ev.ofBind h fun y1 h => (Ev.ofBif h (fun h => (ih2 _ _ h)) (fun h => (Ev.ofBif h (fun h => (ih2 _ _ h)) (fun h => (Ev.ofBif h (fun h => (ih2 _ _ h)) (fun h => (S_spec_l15Authorised_1_7 ih2 h)))))))))
theorem S_spec_l15Authorised (a0 : DRoleSet) (a1 : (List DRoleGrant)) (a2 : (List Int)) (a3 : Int) (a4 : Bool) {r : (List (List Int))} (h : P_spec_l15Authorised a0 a1 a2 a3 a4 = some r) : Ev (fun n => F_spec_l15Authorised n a0 a1 a2 a3 a4) r := by
  rw [P_spec_l15Authorised] at h
  refine Ev.of_eq ?_ (fun n => F_spec_l15Authorised_eq n a0 a1 a2 a3 a4)
  exact (Ev.ofLen h fun hl h => S_spec_l15Authorised_0_3 hl _ (0 : Nat) _ _ rfl h)
theorem hcs_spec_l15Authorised : ∀ x ∈ cs_spec_l15Authorised, CtrOk Try.prog x := (conOf_cons ok_spec_l15Role (conOf_cons ok_spec_l15Counts (conOf_cons ok_spec_l15Under conOf_nil)))
theorem ok_spec_l15Authorised : CtrOk Try.prog c_spec_l15Authorised := by
  refine ctr_of_run (c := c_spec_l15Authorised) (by kernel_rfl) (by kernel_rfl : Try.prog.funcs[50]? = some Try.f50) (code := Try.f50.body.getD .skip) (by kernel_rfl) (by kernel_rfl) (by kernel_rfl) (A := A_spec_l15Authorised) (I := In_spec_l15Authorised) hcs_spec_l15Authorised ?_
  rintro ⟨a0, a1, a2, a3, a4, u⟩ y hy
  exact (S_spec_l15Authorised a0 a1 a2 a3 a4 hy).get

/-! ## spec.l15Apart (49) -/
noncomputable def P_spec_l15Apart_0_6 (K0 : Option Bool) (x1 : (List (List Int))) (x2 : Bool) (x10 : DApart) : List (List Int) → Int → Option Bool
  | [], x3 =>
      bif x10.2.2 == x2 then
        bif decide (x10.2.1 < x3) then
          some false
        else
          K0
      else
        K0
  | e :: rest, x3 =>
      Option.bind (P_spec_l3Has x1 (e)) fun (y1 : Bool) =>
      bif y1 then
        P_spec_l15Apart_0_6 K0 x1 x2 x10 rest (IntKind.wrap .i64 (x3 + 1))
      else
        P_spec_l15Apart_0_6 K0 x1 x2 x10 rest x3
noncomputable def P_spec_l15Apart_0_2 (x1 : (List (List Int))) (x2 : Bool) : List DApart → Option Bool
  | [] =>
      some true
  | e :: rest =>
      lenOk ((e).1) (P_spec_l15Apart_0_6 (P_spec_l15Apart_0_2 x1 x2 rest) x1 x2 (e) ((e).1) 0)
noncomputable def P_spec_l15Apart (a0 : DRoleSet) (a1 : (List (List Int))) (a2 : Bool) : Option Bool :=
  lenOk a0.2.1 (P_spec_l15Apart_0_2 a1 a2 a0.2.1)
noncomputable def c_spec_l15Apart : Ctr := ⟨49, [TyRoleSet, (.list .str), .bool], [.bool], fun x => P_spec_l15Apart x.1 x.2.1 x.2.2.1⟩
def A_spec_l15Apart : List (List Nat × Ann) := [([0, 2], [.keep 0 1, .keep 0 2, .keep 0 13, .keep 0 14, .keep 0 15]), ([0, 6], [.keep 0 1, .keep 0 2, .keep 0 8, .keep 0 9, .keep 0 13, .keep 0 14, .keep 0 15, .keep 0 20, .keep 0 21, .keep 0 22, .boxd 0 8 TyApart])]
def In_spec_l15Apart : List (List Nat × Nat) := []
noncomputable def cs_spec_l15Apart : List Ctr := [c_spec_l3Has]
noncomputable def F_spec_l15Apart (n : Nat) (a0 : DRoleSet) (a1 : (List (List Int))) (a2 : Bool) : Option Bool := run Try.prog A_spec_l15Apart In_spec_l15Apart (conOf cs_spec_l15Apart) Try.f49 (Try.f49.body.getD .skip) (packT [.bool]) n (argsV [TyRoleSet, (.list .str), .bool] (a0, a1, a2, ()))
noncomputable abbrev L_spec_l15Apart_0_2 (n : Nat) (x1 : (List (List Int))) (x2 : Bool) (x3 : (List DApart)) (x4 : Int) (x5 : Int) : Option Bool := lam Try.prog A_spec_l15Apart In_spec_l15Apart (conOf cs_spec_l15Apart) Try.f49 (Try.f49.body.getD .skip) (packT [.bool]) n [0, 2] [.d (.list .str) x1, .d .bool x2, .d (.list TyApart) x3, .d I64 x4, .d I64 x5]
noncomputable abbrev L_spec_l15Apart_0_6 (n : Nat) (x1 : (List (List Int))) (x2 : Bool) (x3 : Int) (x4 : (List DApart)) (x5 : Int) (x6 : Int) (x7 : (List (List Int))) (x8 : Int) (x9 : Int) (x10 : DApart) : Option Bool := lam Try.prog A_spec_l15Apart In_spec_l15Apart (conOf cs_spec_l15Apart) Try.f49 (Try.f49.body.getD .skip) (packT [.bool]) n [0, 6] [.d (.list .str) x1, .d .bool x2, .ptr 0 8 0, .d I64 x3, .d (.list TyApart) x4, .d I64 x5, .d I64 x6, .d (.list .str) x7, .d I64 x8, .d I64 x9, .agg (explode TyApart x10)]
theorem F_spec_l15Apart_eq (n : Nat) (a0 : DRoleSet) (a1 : (List (List Int))) (a2 : Bool) : F_spec_l15Apart n a0 a1 a2 =
    L_spec_l15Apart_0_2 n a1 a2 a0.2.1 (a0.2.1.length : Int) 0 := by kernel_rfl
theorem L_spec_l15Apart_0_2_eq (n : Nat) (x1 : (List (List Int))) (x2 : Bool) (x3 : (List DApart)) (x4 : Int) (x5 : Int) : L_spec_l15Apart_0_2 (n + 1) x1 x2 x3 x4 x5 =
    bif decide (x5 < x4) then
      bif inB x5 x3.length then
        L_spec_l15Apart_0_6 n x1 x2 0 x3 x4 x5 ((rd x3 x5 (Ty.dflt TyApart)).1) (((rd x3 x5 (Ty.dflt TyApart)).1).length : Int) 0 (rd x3 x5 (Ty.dflt TyApart))
      else none
    else
      some true := by kernel_rfl
theorem L_spec_l15Apart_0_6_eq (n : Nat) (x1 : (List (List Int))) (x2 : Bool) (x3 : Int) (x4 : (List DApart)) (x5 : Int) (x6 : Int) (x7 : (List (List Int))) (x8 : Int) (x9 : Int) (x10 : DApart) : L_spec_l15Apart_0_6 (n + 1) x1 x2 x3 x4 x5 x6 x7 x8 x9 x10 =
    bif decide (x9 < x8) then
      bif inB x9 x7.length then
        Option.bind (P_spec_l3Has x1 (rd x7 x9 (Ty.dflt .str))) fun (y1 : Bool) =>
        bif y1 then
          L_spec_l15Apart_0_6 n x1 x2 (IntKind.wrap .i64 (x3 + 1)) x4 x5 x6 x7 x8 (IntKind.wrap .i64 (x9 + 1)) x10
        else
          L_spec_l15Apart_0_6 n x1 x2 x3 x4 x5 x6 x7 x8 (IntKind.wrap .i64 (x9 + 1)) x10
      else none
    else
      bif x10.2.2 == x2 then
        bif decide (x10.2.1 < x3) then
          some false
        else
          L_spec_l15Apart_0_2 n x1 x2 x4 x5 (IntKind.wrap .i64 (x6 + 1))
      else
        L_spec_l15Apart_0_2 n x1 x2 x4 x5 (IntKind.wrap .i64 (x6 + 1)) := by kernel_rfl
theorem S_spec_l15Apart_0_6 {K0 : Option Bool} {x1 : (List (List Int))} {x2 : Bool} {x4 : (List DApart)} {x5 : Int} {x6 : Int} {x7 : (List (List Int))} {x10 : DApart} (hl : x7.length ≤ maxLen) (hK0 : ∀  (r : Bool), K0 = some r → Ev (fun n => L_spec_l15Apart_0_2 n x1 x2 x4 x5 (IntKind.wrap .i64 (x6 + 1))) r) : ∀ (rest : List (List Int)) (k : Nat) (x3 : Int) (r : Bool), rest = x7.drop k → P_spec_l15Apart_0_6 K0 x1 x2 x10 rest x3 = some r → Ev (fun n => L_spec_l15Apart_0_6 n x1 x2 x3 x4 x5 x6 x7 (x7.length : Int) (k : Int) x10) r := by
  intro rest
  induction rest with
  | nil =>
    intro k x3 r hr h
    have hk := drop_nil hr
    rw [P_spec_l15Apart_0_6] at h
    refine Ev.step ?_ (fun n => L_spec_l15Apart_0_6_eq n x1 x2 x3 x4 x5 x6 x7 (x7.length : Int) (k : Int) x10)
    rw [show decide ((k : Int) < (x7.length : Int)) = false from decide_eq_false (by omega)]
    exact Ev.neg rfl (Ev.ofBif h (fun h => (Ev.ofBif h (fun h => (Ev.ofSome h)) (fun h => (hK0  _ h)))) (fun h => (hK0  _ h)))
  | cons e rest ih =>
    intro k x3 r hr h
    obtain ⟨hk, hx, hr2⟩ := drop_cons (d := (Ty.dflt .str)) hr
    have hw := wrap_succ hl hk
    have ih2 : ∀ (z3 : Int) (r : Bool), P_spec_l15Apart_0_6 K0 x1 x2 x10 rest z3 = some r → Ev (fun n => L_spec_l15Apart_0_6 n x1 x2 z3 x4 x5 x6 x7 (x7.length : Int) (IntKind.wrap .i64 ((k : Int) + 1)) x10) r := by
      intro z3 r h; rw [hw]; exact ih (k + 1) z3 r hr2 h
    rw [P_spec_l15Apart_0_6] at h
    refine Ev.step ?_ (fun n => L_spec_l15Apart_0_6_eq n x1 x2 x3 x4 x5 x6 x7 (x7.length : Int) (k : Int) x10)
    rw [show decide ((k : Int) < (x7.length : Int)) = true from decide_eq_true (by omega), inB_nat2 hk, hx]
    exact Ev.pos rfl (Ev.pos rfl (Ev.ofBind h fun y1 h => (Ev.ofBif h (fun h => (ih2 _ _ h)) (fun h => (ih2 _ _ h)))))
theorem S_spec_l15Apart_0_2 {x1 : (List (List Int))} {x2 : Bool} {x3 : (List DApart)} (hl : x3.length ≤ maxLen) : ∀ (rest : List DApart) (k : Nat) (r : Bool), rest = x3.drop k → P_spec_l15Apart_0_2 x1 x2 rest = some r → Ev (fun n => L_spec_l15Apart_0_2 n x1 x2 x3 (x3.length : Int) (k : Int)) r := by
  intro rest
  induction rest with
  | nil =>
    intro k r hr h
    have hk := drop_nil hr
    rw [P_spec_l15Apart_0_2] at h
    refine Ev.step ?_ (fun n => L_spec_l15Apart_0_2_eq n x1 x2 x3 (x3.length : Int) (k : Int))
    rw [show decide ((k : Int) < (x3.length : Int)) = false from decide_eq_false (by omega)]
    exact Ev.neg rfl (Ev.ofSome h)
  | cons e rest ih =>
    intro k r hr h
    obtain ⟨hk, hx, hr2⟩ := drop_cons (d := (Ty.dflt TyApart)) hr
    have hw := wrap_succ hl hk
    have ih2 : ∀ (r : Bool), P_spec_l15Apart_0_2 x1 x2 rest = some r → Ev (fun n => L_spec_l15Apart_0_2 n x1 x2 x3 (x3.length : Int) (IntKind.wrap .i64 ((k : Int) + 1))) r := by
      intro r h; rw [hw]; exact ih (k + 1) r hr2 h
    rw [P_spec_l15Apart_0_2] at h
    refine Ev.step ?_ (fun n => L_spec_l15Apart_0_2_eq n x1 x2 x3 (x3.length : Int) (k : Int))
    rw [show decide ((k : Int) < (x3.length : Int)) = true from decide_eq_true (by omega), inB_nat2 hk, hx]
    exact Ev.pos rfl (Ev.pos rfl (Ev.ofLen h fun hl h => S_spec_l15Apart_0_6 hl ih2 _ (0 : Nat) _ _ rfl h))
theorem S_spec_l15Apart (a0 : DRoleSet) (a1 : (List (List Int))) (a2 : Bool) {r : Bool} (h : P_spec_l15Apart a0 a1 a2 = some r) : Ev (fun n => F_spec_l15Apart n a0 a1 a2) r := by
  rw [P_spec_l15Apart] at h
  refine Ev.of_eq ?_ (fun n => F_spec_l15Apart_eq n a0 a1 a2)
  exact (Ev.ofLen h fun hl h => S_spec_l15Apart_0_2 hl _ (0 : Nat) _ rfl h)
theorem hcs_spec_l15Apart : ∀ x ∈ cs_spec_l15Apart, CtrOk Try.prog x := (conOf_cons ok_spec_l3Has conOf_nil)
theorem ok_spec_l15Apart : CtrOk Try.prog c_spec_l15Apart := by
  refine ctr_of_run (c := c_spec_l15Apart) (by kernel_rfl) (by kernel_rfl : Try.prog.funcs[49]? = some Try.f49) (code := Try.f49.body.getD .skip) (by kernel_rfl) (by kernel_rfl) (by kernel_rfl) (A := A_spec_l15Apart) (I := In_spec_l15Apart) hcs_spec_l15Apart ?_
  rintro ⟨a0, a1, a2, u⟩ y hy
  exact (S_spec_l15Apart a0 a1 a2 hy).get

/-! ## spec.l15Standing (51) -/
noncomputable def P_spec_l15Standing_0_10 (x1 : Int) (x6 : DRoleSet) : List DRoleGrant → (List (List Int)) → Option (List (List Int))
  | [], x2 =>
      Option.bind (E_spec_l15Under x6 x2) fun (y4 : (List (List Int))) =>
      some y4
  | e :: rest, x2 =>
      Option.bind (P_spec_l15Role x6 (((e).2).1)) fun (y3 : (DRole × Bool)) =>
      bif y3.2 then
        bif decide (x1 ≤ ((((e).2).2).2).1) then
          bif decide (((x2.length : Int) + (([((e).2).1] : List (List Int)).length : Int)) * 16 ≤ room) && decide ((x2.length : Int) + (([((e).2).1] : List (List Int)).length : Int) ≤ room) then
            P_spec_l15Standing_0_10 x1 x6 rest (x2 ++ ([((e).2).1] : List (List Int)))
          else none
        else
          P_spec_l15Standing_0_10 x1 x6 rest x2
      else
        P_spec_l15Standing_0_10 x1 x6 rest x2
noncomputable def P_spec_l15Standing_0_4 (x1 : Int) (x2 : Bool) (x3 : (List (List Int))) (x8 : DRoleSet) (x9 : DRoleSession) : List (List Int) → (List (List Int)) → Option (List (List Int))
  | [], x4 =>
      lenOk x9.2.2.2.1 (P_spec_l15Standing_0_10 x1 x8 x9.2.2.2.1 x4)
  | e :: rest, x4 =>
      bif x2 then
        bif decide (((x4.length : Int) + (([e] : List (List Int)).length : Int)) * 16 ≤ room) && decide ((x4.length : Int) + (([e] : List (List Int)).length : Int) ≤ room) then
          P_spec_l15Standing_0_4 x1 x2 x3 x8 x9 rest (x4 ++ ([e] : List (List Int)))
        else none
      else
        Option.bind (P_spec_l3Has x3 (e)) fun (y2 : Bool) =>
        bif y2 then
          bif decide (((x4.length : Int) + (([e] : List (List Int)).length : Int)) * 16 ≤ room) && decide ((x4.length : Int) + (([e] : List (List Int)).length : Int) ≤ room) then
            P_spec_l15Standing_0_4 x1 x2 x3 x8 x9 rest (x4 ++ ([e] : List (List Int)))
          else none
        else
          P_spec_l15Standing_0_4 x1 x2 x3 x8 x9 rest x4
noncomputable def P_spec_l15Standing (a0 : DRoleSet) (a1 : (List DRoleGrant)) (a2 : DRoleSession) (a3 : Int) (a4 : Bool) : Option (List (List Int)) :=
  Option.bind (P_spec_l15Authorised a0 a1 a2.2.1 a3 false) fun (y1 : (List (List Int))) =>
  lenOk a2.2.2.1 (P_spec_l15Standing_0_4 a3 a4 y1 a0 a2 a2.2.2.1 [])
noncomputable def c_spec_l15Standing : Ctr := ⟨51, [TyRoleSet, (.list TyRoleGrant), TyRoleSession, I64, .bool], [(.list .str)], fun x => P_spec_l15Standing x.1 x.2.1 x.2.2.1 x.2.2.2.1 x.2.2.2.2.1⟩
def A_spec_l15Standing : List (List Nat × Ann) := [([0, 4], [.keep 0 3, .keep 0 4, .keep 0 5, .keep 0 7, .keep 0 11, .own 0 12 .str, .keep 0 26, .keep 0 27, .keep 0 28, .boxd 0 5 TyRoleSet, .boxd 0 7 TyRoleSession]), ([0, 10], [.keep 0 3, .keep 0 5, .own 0 12 .str, .keep 0 44, .keep 0 45, .keep 0 46, .boxd 0 5 TyRoleSet])]
def In_spec_l15Standing : List (List Nat × Nat) := []
noncomputable def cs_spec_l15Standing : List Ctr := [c_spec_l15Authorised, c_spec_l3Has, c_spec_l15Role, c_spec_l15Under]
noncomputable def F_spec_l15Standing (n : Nat) (a0 : DRoleSet) (a1 : (List DRoleGrant)) (a2 : DRoleSession) (a3 : Int) (a4 : Bool) : Option (List (List Int)) := run Try.prog A_spec_l15Standing In_spec_l15Standing (conOf cs_spec_l15Standing) Try.f51 (Try.f51.body.getD .skip) (packT [(.list .str)]) n (argsV [TyRoleSet, (.list TyRoleGrant), TyRoleSession, I64, .bool] (a0, a1, a2, a3, a4, ()))
noncomputable abbrev L_spec_l15Standing_0_4 (n : Nat) (x1 : Int) (x2 : Bool) (x3 : (List (List Int))) (x4 : (List (List Int))) (x5 : (List (List Int))) (x6 : Int) (x7 : Int) (x8 : DRoleSet) (x9 : DRoleSession) : Option (List (List Int)) := lam Try.prog A_spec_l15Standing In_spec_l15Standing (conOf cs_spec_l15Standing) Try.f51 (Try.f51.body.getD .skip) (packT [(.list .str)]) n [0, 4] [.d I64 x1, .d .bool x2, .ptr 0 5 0, .ptr 0 7 0, .d (.list .str) x3, .own 0 .str x4, .d (.list .str) x5, .d I64 x6, .d I64 x7, .agg (explode TyRoleSet x8), .agg (explode TyRoleSession x9)]
noncomputable abbrev L_spec_l15Standing_0_10 (n : Nat) (x1 : Int) (x2 : (List (List Int))) (x3 : (List DRoleGrant)) (x4 : Int) (x5 : Int) (x6 : DRoleSet) : Option (List (List Int)) := lam Try.prog A_spec_l15Standing In_spec_l15Standing (conOf cs_spec_l15Standing) Try.f51 (Try.f51.body.getD .skip) (packT [(.list .str)]) n [0, 10] [.d I64 x1, .ptr 0 5 0, .own 0 .str x2, .d (.list TyRoleGrant) x3, .d I64 x4, .d I64 x5, .agg (explode TyRoleSet x6)]
theorem F_spec_l15Standing_eq (n : Nat) (a0 : DRoleSet) (a1 : (List DRoleGrant)) (a2 : DRoleSession) (a3 : Int) (a4 : Bool) : F_spec_l15Standing n a0 a1 a2 a3 a4 =
    Option.bind (P_spec_l15Authorised a0 a1 a2.2.1 a3 false) fun (y1 : (List (List Int))) =>
    L_spec_l15Standing_0_4 n a3 a4 y1 [] a2.2.2.1 (a2.2.2.1.length : Int) 0 a0 a2 := by kernel_rfl
theorem L_spec_l15Standing_0_4_eq (n : Nat) (x1 : Int) (x2 : Bool) (x3 : (List (List Int))) (x4 : (List (List Int))) (x5 : (List (List Int))) (x6 : Int) (x7 : Int) (x8 : DRoleSet) (x9 : DRoleSession) : L_spec_l15Standing_0_4 (n + 1) x1 x2 x3 x4 x5 x6 x7 x8 x9 =
    bif decide (x7 < x6) then
      bif inB x7 x5.length then
        bif x2 then
          bif decide (((x4.length : Int) + (([rd x5 x7 (Ty.dflt .str)] : List (List Int)).length : Int)) * 16 ≤ room) && decide ((x4.length : Int) + (([rd x5 x7 (Ty.dflt .str)] : List (List Int)).length : Int) ≤ room) then
            L_spec_l15Standing_0_4 n x1 x2 x3 (x4 ++ ([rd x5 x7 (Ty.dflt .str)] : List (List Int))) x5 x6 (IntKind.wrap .i64 (x7 + 1)) x8 x9
          else none
        else
          Option.bind (P_spec_l3Has x3 (rd x5 x7 (Ty.dflt .str))) fun (y2 : Bool) =>
          bif y2 then
            bif decide (((x4.length : Int) + (([rd x5 x7 (Ty.dflt .str)] : List (List Int)).length : Int)) * 16 ≤ room) && decide ((x4.length : Int) + (([rd x5 x7 (Ty.dflt .str)] : List (List Int)).length : Int) ≤ room) then
              L_spec_l15Standing_0_4 n x1 x2 x3 (x4 ++ ([rd x5 x7 (Ty.dflt .str)] : List (List Int))) x5 x6 (IntKind.wrap .i64 (x7 + 1)) x8 x9
            else none
          else
            L_spec_l15Standing_0_4 n x1 x2 x3 x4 x5 x6 (IntKind.wrap .i64 (x7 + 1)) x8 x9
      else none
    else
      L_spec_l15Standing_0_10 n x1 x4 x9.2.2.2.1 (x9.2.2.2.1.length : Int) 0 x8 := by kernel_rfl
theorem L_spec_l15Standing_0_10_eq (n : Nat) (x1 : Int) (x2 : (List (List Int))) (x3 : (List DRoleGrant)) (x4 : Int) (x5 : Int) (x6 : DRoleSet) : L_spec_l15Standing_0_10 (n + 1) x1 x2 x3 x4 x5 x6 =
    bif decide (x5 < x4) then
      bif inB x5 x3.length then
        Option.bind (P_spec_l15Role x6 (((rd x3 x5 (Ty.dflt TyRoleGrant)).2).1)) fun (y3 : (DRole × Bool)) =>
        bif y3.2 then
          bif decide (x1 ≤ ((((rd x3 x5 (Ty.dflt TyRoleGrant)).2).2).2).1) then
            bif decide (((x2.length : Int) + (([((rd x3 x5 (Ty.dflt TyRoleGrant)).2).1] : List (List Int)).length : Int)) * 16 ≤ room) && decide ((x2.length : Int) + (([((rd x3 x5 (Ty.dflt TyRoleGrant)).2).1] : List (List Int)).length : Int) ≤ room) then
              L_spec_l15Standing_0_10 n x1 (x2 ++ ([((rd x3 x5 (Ty.dflt TyRoleGrant)).2).1] : List (List Int))) x3 x4 (IntKind.wrap .i64 (x5 + 1)) x6
            else none
          else
            L_spec_l15Standing_0_10 n x1 x2 x3 x4 (IntKind.wrap .i64 (x5 + 1)) x6
        else
          L_spec_l15Standing_0_10 n x1 x2 x3 x4 (IntKind.wrap .i64 (x5 + 1)) x6
      else none
    else
      Option.bind (E_spec_l15Under x6 x2) fun (y4 : (List (List Int))) =>
      some y4 := by kernel_rfl
theorem S_spec_l15Standing_0_10 {x1 : Int} {x3 : (List DRoleGrant)} {x6 : DRoleSet} (hl : x3.length ≤ maxLen) : ∀ (rest : List DRoleGrant) (k : Nat) (x2 : (List (List Int))) (r : (List (List Int))), rest = x3.drop k → P_spec_l15Standing_0_10 x1 x6 rest x2 = some r → Ev (fun n => L_spec_l15Standing_0_10 n x1 x2 x3 (x3.length : Int) (k : Int) x6) r := by
  intro rest
  induction rest with
  | nil =>
    intro k x2 r hr h
    have hk := drop_nil hr
    rw [P_spec_l15Standing_0_10] at h
    refine Ev.step ?_ (fun n => L_spec_l15Standing_0_10_eq n x1 x2 x3 (x3.length : Int) (k : Int) x6)
    rw [show decide ((k : Int) < (x3.length : Int)) = false from decide_eq_false (by omega)]
    exact Ev.neg rfl (Ev.ofBind h fun y4 h => (Ev.ofSome h))
  | cons e rest ih =>
    intro k x2 r hr h
    obtain ⟨hk, hx, hr2⟩ := drop_cons (d := (Ty.dflt TyRoleGrant)) hr
    have hw := wrap_succ hl hk
    have ih2 : ∀ (z2 : (List (List Int))) (r : (List (List Int))), P_spec_l15Standing_0_10 x1 x6 rest z2 = some r → Ev (fun n => L_spec_l15Standing_0_10 n x1 z2 x3 (x3.length : Int) (IntKind.wrap .i64 ((k : Int) + 1)) x6) r := by
      intro z2 r h; rw [hw]; exact ih (k + 1) z2 r hr2 h
    rw [P_spec_l15Standing_0_10] at h
    refine Ev.step ?_ (fun n => L_spec_l15Standing_0_10_eq n x1 x2 x3 (x3.length : Int) (k : Int) x6)
    rw [show decide ((k : Int) < (x3.length : Int)) = true from decide_eq_true (by omega), inB_nat2 hk, hx]
    exact Ev.pos rfl (Ev.pos rfl (Ev.ofBind h fun y3 h => (Ev.ofBif h (fun h => (Ev.ofBif h (fun h => (Ev.ofBif h (fun h => (ih2 _ _ h)) (fun h => (Ev.ofNone h)))) (fun h => (ih2 _ _ h)))) (fun h => (ih2 _ _ h)))))
theorem S_spec_l15Standing_0_4 {x1 : Int} {x2 : Bool} {x3 : (List (List Int))} {x5 : (List (List Int))} {x8 : DRoleSet} {x9 : DRoleSession} (hl : x5.length ≤ maxLen) : ∀ (rest : List (List Int)) (k : Nat) (x4 : (List (List Int))) (r : (List (List Int))), rest = x5.drop k → P_spec_l15Standing_0_4 x1 x2 x3 x8 x9 rest x4 = some r → Ev (fun n => L_spec_l15Standing_0_4 n x1 x2 x3 x4 x5 (x5.length : Int) (k : Int) x8 x9) r := by
  intro rest
  induction rest with
  | nil =>
    intro k x4 r hr h
    have hk := drop_nil hr
    rw [P_spec_l15Standing_0_4] at h
    refine Ev.step ?_ (fun n => L_spec_l15Standing_0_4_eq n x1 x2 x3 x4 x5 (x5.length : Int) (k : Int) x8 x9)
    rw [show decide ((k : Int) < (x5.length : Int)) = false from decide_eq_false (by omega)]
    exact Ev.neg rfl (Ev.ofLen h fun hl h => S_spec_l15Standing_0_10 hl _ (0 : Nat) _ _ rfl h)
  | cons e rest ih =>
    intro k x4 r hr h
    obtain ⟨hk, hx, hr2⟩ := drop_cons (d := (Ty.dflt .str)) hr
    have hw := wrap_succ hl hk
    have ih2 : ∀ (z4 : (List (List Int))) (r : (List (List Int))), P_spec_l15Standing_0_4 x1 x2 x3 x8 x9 rest z4 = some r → Ev (fun n => L_spec_l15Standing_0_4 n x1 x2 x3 z4 x5 (x5.length : Int) (IntKind.wrap .i64 ((k : Int) + 1)) x8 x9) r := by
      intro z4 r h; rw [hw]; exact ih (k + 1) z4 r hr2 h
    rw [P_spec_l15Standing_0_4] at h
    refine Ev.step ?_ (fun n => L_spec_l15Standing_0_4_eq n x1 x2 x3 x4 x5 (x5.length : Int) (k : Int) x8 x9)
    rw [show decide ((k : Int) < (x5.length : Int)) = true from decide_eq_true (by omega), inB_nat2 hk, hx]
    exact Ev.pos rfl (Ev.pos rfl (Ev.ofBif h (fun h => (Ev.ofBif h (fun h => (ih2 _ _ h)) (fun h => (Ev.ofNone h)))) (fun h => (Ev.ofBind h fun y2 h => (Ev.ofBif h (fun h => (Ev.ofBif h (fun h => (ih2 _ _ h)) (fun h => (Ev.ofNone h)))) (fun h => (ih2 _ _ h)))))))
theorem S_spec_l15Standing (a0 : DRoleSet) (a1 : (List DRoleGrant)) (a2 : DRoleSession) (a3 : Int) (a4 : Bool) {r : (List (List Int))} (h : P_spec_l15Standing a0 a1 a2 a3 a4 = some r) : Ev (fun n => F_spec_l15Standing n a0 a1 a2 a3 a4) r := by
  rw [P_spec_l15Standing] at h
  refine Ev.of_eq ?_ (fun n => F_spec_l15Standing_eq n a0 a1 a2 a3 a4)
  exact (Ev.ofBind h fun y1 h => (Ev.ofLen h fun hl h => S_spec_l15Standing_0_4 hl _ (0 : Nat) _ _ rfl h))
theorem hcs_spec_l15Standing : ∀ x ∈ cs_spec_l15Standing, CtrOk Try.prog x := (conOf_cons ok_spec_l15Authorised (conOf_cons ok_spec_l3Has (conOf_cons ok_spec_l15Role (conOf_cons ok_spec_l15Under conOf_nil))))
theorem ok_spec_l15Standing : CtrOk Try.prog c_spec_l15Standing := by
  refine ctr_of_run (c := c_spec_l15Standing) (by kernel_rfl) (by kernel_rfl : Try.prog.funcs[51]? = some Try.f51) (code := Try.f51.body.getD .skip) (by kernel_rfl) (by kernel_rfl) (by kernel_rfl) (A := A_spec_l15Standing) (I := In_spec_l15Standing) hcs_spec_l15Standing ?_
  rintro ⟨a0, a1, a2, a3, a4, u⟩ y hy
  exact (S_spec_l15Standing a0 a1 a2 a3 a4 hy).get

/-! ## spec.KeptApart (17) -/
noncomputable def P_spec_KeptApart_0_13 (x1 : Int) (x5 : DRoleSet) (x6 : DRoleState) : List DRoleSession → Option Bool
  | [] =>
      some true
  | e :: rest =>
      bif ((((e).2).2).2).2 then
        Option.bind (P_spec_l15Standing x5 x6.2.1 (e) x1 false) fun (y6 : (List (List Int))) =>
        Option.bind (P_spec_l15Apart x5 y6 true) fun (y7 : Bool) =>
        bif !(y7) then
          some false
        else
          P_spec_KeptApart_0_13 x1 x5 x6 rest
      else
        P_spec_KeptApart_0_13 x1 x5 x6 rest
noncomputable def P_spec_KeptApart_0_5 (x1 : Int) (x6 : DRoleSet) (x7 : DRoleState) : List DRoleGrant → (List (List Int)) → Option Bool
  | [], x2 =>
      lenOk x7.2.2.1 (P_spec_KeptApart_0_13 x1 x6 x7 x7.2.2.1)
  | e :: rest, x2 =>
      Option.bind (P_spec_l3Has x2 ((e).1)) fun (y3 : Bool) =>
      bif y3 then
        P_spec_KeptApart_0_5 x1 x6 x7 rest x2
      else
        bif decide (((x2.length : Int) + (([(e).1] : List (List Int)).length : Int)) * 16 ≤ room) && decide ((x2.length : Int) + (([(e).1] : List (List Int)).length : Int) ≤ room) then
          Option.bind (P_spec_l15Authorised x6 x7.2.1 ((e).1) x1 false) fun (y4 : (List (List Int))) =>
          Option.bind (P_spec_l15Apart x6 y4 false) fun (y5 : Bool) =>
          bif !(y5) then
            some false
          else
            P_spec_KeptApart_0_5 x1 x6 x7 rest (x2 ++ ([(e).1] : List (List Int)))
        else none
noncomputable def P_spec_KeptApart (a0 : DRoleSet) (a1 : DRoleState) (a2 : Int) : Option Bool :=
  Option.bind (P_spec_GoodRoleSet a0) fun (y1 : Bool) =>
  bif !(y1) then
    some false
  else
    bif decide (a2 < a1.2.2.2) then
      some false
    else
      Option.bind (P_spec_l15Small a1) fun (y2 : Bool) =>
      bif !(y2) then
        some false
      else
        lenOk a1.2.1 (P_spec_KeptApart_0_5 a2 a0 a1 a1.2.1 [])
noncomputable def c_spec_KeptApart : Ctr := ⟨17, [TyRoleSet, TyRoleState, I64], [.bool], fun x => P_spec_KeptApart x.1 x.2.1 x.2.2.1⟩
def A_spec_KeptApart : List (List Nat × Ann) := [([0, 5], [.keep 0 2, .keep 0 3, .keep 0 4, .own 0 7 .str, .keep 0 27, .keep 0 28, .keep 0 29, .boxd 0 3 TyRoleSet, .boxd 0 4 TyRoleState]), ([0, 13], [.keep 0 2, .keep 0 3, .keep 0 4, .keep 0 54, .keep 0 55, .keep 0 56, .boxd 0 3 TyRoleSet, .boxd 0 4 TyRoleState])]
def In_spec_KeptApart : List (List Nat × Nat) := []
noncomputable def cs_spec_KeptApart : List Ctr := [c_spec_GoodRoleSet, c_spec_l15Small, c_spec_l3Has, c_spec_l15Authorised, c_spec_l15Apart, c_spec_l15Standing]
noncomputable def F_spec_KeptApart (n : Nat) (a0 : DRoleSet) (a1 : DRoleState) (a2 : Int) : Option Bool := run Try.prog A_spec_KeptApart In_spec_KeptApart (conOf cs_spec_KeptApart) Try.f17 (Try.f17.body.getD .skip) (packT [.bool]) n (argsV [TyRoleSet, TyRoleState, I64] (a0, a1, a2, ()))
noncomputable abbrev L_spec_KeptApart_0_5 (n : Nat) (x1 : Int) (x2 : (List (List Int))) (x3 : (List DRoleGrant)) (x4 : Int) (x5 : Int) (x6 : DRoleSet) (x7 : DRoleState) : Option Bool := lam Try.prog A_spec_KeptApart In_spec_KeptApart (conOf cs_spec_KeptApart) Try.f17 (Try.f17.body.getD .skip) (packT [.bool]) n [0, 5] [.d I64 x1, .ptr 0 3 0, .ptr 0 4 0, .own 0 .str x2, .d (.list TyRoleGrant) x3, .d I64 x4, .d I64 x5, .agg (explode TyRoleSet x6), .agg (explode TyRoleState x7)]
noncomputable abbrev L_spec_KeptApart_0_13 (n : Nat) (x1 : Int) (x2 : (List DRoleSession)) (x3 : Int) (x4 : Int) (x5 : DRoleSet) (x6 : DRoleState) : Option Bool := lam Try.prog A_spec_KeptApart In_spec_KeptApart (conOf cs_spec_KeptApart) Try.f17 (Try.f17.body.getD .skip) (packT [.bool]) n [0, 13] [.d I64 x1, .ptr 0 3 0, .ptr 0 4 0, .d (.list TyRoleSession) x2, .d I64 x3, .d I64 x4, .agg (explode TyRoleSet x5), .agg (explode TyRoleState x6)]
theorem F_spec_KeptApart_eq (n : Nat) (a0 : DRoleSet) (a1 : DRoleState) (a2 : Int) : F_spec_KeptApart n a0 a1 a2 =
    Option.bind (P_spec_GoodRoleSet a0) fun (y1 : Bool) =>
    bif !(y1) then
      some false
    else
      bif decide (a2 < a1.2.2.2) then
        some false
      else
        Option.bind (P_spec_l15Small a1) fun (y2 : Bool) =>
        bif !(y2) then
          some false
        else
          L_spec_KeptApart_0_5 n a2 [] a1.2.1 (a1.2.1.length : Int) 0 a0 a1 := by kernel_rfl
theorem L_spec_KeptApart_0_5_eq (n : Nat) (x1 : Int) (x2 : (List (List Int))) (x3 : (List DRoleGrant)) (x4 : Int) (x5 : Int) (x6 : DRoleSet) (x7 : DRoleState) : L_spec_KeptApart_0_5 (n + 1) x1 x2 x3 x4 x5 x6 x7 =
    bif decide (x5 < x4) then
      bif inB x5 x3.length then
        Option.bind (P_spec_l3Has x2 ((rd x3 x5 (Ty.dflt TyRoleGrant)).1)) fun (y3 : Bool) =>
        bif y3 then
          L_spec_KeptApart_0_5 n x1 x2 x3 x4 (IntKind.wrap .i64 (x5 + 1)) x6 x7
        else
          bif decide (((x2.length : Int) + (([(rd x3 x5 (Ty.dflt TyRoleGrant)).1] : List (List Int)).length : Int)) * 16 ≤ room) && decide ((x2.length : Int) + (([(rd x3 x5 (Ty.dflt TyRoleGrant)).1] : List (List Int)).length : Int) ≤ room) then
            Option.bind (P_spec_l15Authorised x6 x7.2.1 ((rd x3 x5 (Ty.dflt TyRoleGrant)).1) x1 false) fun (y4 : (List (List Int))) =>
            Option.bind (P_spec_l15Apart x6 y4 false) fun (y5 : Bool) =>
            bif !(y5) then
              some false
            else
              L_spec_KeptApart_0_5 n x1 (x2 ++ ([(rd x3 x5 (Ty.dflt TyRoleGrant)).1] : List (List Int))) x3 x4 (IntKind.wrap .i64 (x5 + 1)) x6 x7
          else none
      else none
    else
      L_spec_KeptApart_0_13 n x1 x7.2.2.1 (x7.2.2.1.length : Int) 0 x6 x7 := by kernel_rfl
theorem L_spec_KeptApart_0_13_eq (n : Nat) (x1 : Int) (x2 : (List DRoleSession)) (x3 : Int) (x4 : Int) (x5 : DRoleSet) (x6 : DRoleState) : L_spec_KeptApart_0_13 (n + 1) x1 x2 x3 x4 x5 x6 =
    bif decide (x4 < x3) then
      bif inB x4 x2.length then
        bif ((((rd x2 x4 (Ty.dflt TyRoleSession)).2).2).2).2 then
          Option.bind (P_spec_l15Standing x5 x6.2.1 (rd x2 x4 (Ty.dflt TyRoleSession)) x1 false) fun (y6 : (List (List Int))) =>
          Option.bind (P_spec_l15Apart x5 y6 true) fun (y7 : Bool) =>
          bif !(y7) then
            some false
          else
            L_spec_KeptApart_0_13 n x1 x2 x3 (IntKind.wrap .i64 (x4 + 1)) x5 x6
        else
          L_spec_KeptApart_0_13 n x1 x2 x3 (IntKind.wrap .i64 (x4 + 1)) x5 x6
      else none
    else
      some true := by kernel_rfl
theorem S_spec_KeptApart_0_13 {x1 : Int} {x2 : (List DRoleSession)} {x5 : DRoleSet} {x6 : DRoleState} (hl : x2.length ≤ maxLen) : ∀ (rest : List DRoleSession) (k : Nat) (r : Bool), rest = x2.drop k → P_spec_KeptApart_0_13 x1 x5 x6 rest = some r → Ev (fun n => L_spec_KeptApart_0_13 n x1 x2 (x2.length : Int) (k : Int) x5 x6) r := by
  intro rest
  induction rest with
  | nil =>
    intro k r hr h
    have hk := drop_nil hr
    rw [P_spec_KeptApart_0_13] at h
    refine Ev.step ?_ (fun n => L_spec_KeptApart_0_13_eq n x1 x2 (x2.length : Int) (k : Int) x5 x6)
    rw [show decide ((k : Int) < (x2.length : Int)) = false from decide_eq_false (by omega)]
    exact Ev.neg rfl (Ev.ofSome h)
  | cons e rest ih =>
    intro k r hr h
    obtain ⟨hk, hx, hr2⟩ := drop_cons (d := (Ty.dflt TyRoleSession)) hr
    have hw := wrap_succ hl hk
    have ih2 : ∀ (r : Bool), P_spec_KeptApart_0_13 x1 x5 x6 rest = some r → Ev (fun n => L_spec_KeptApart_0_13 n x1 x2 (x2.length : Int) (IntKind.wrap .i64 ((k : Int) + 1)) x5 x6) r := by
      intro r h; rw [hw]; exact ih (k + 1) r hr2 h
    rw [P_spec_KeptApart_0_13] at h
    refine Ev.step ?_ (fun n => L_spec_KeptApart_0_13_eq n x1 x2 (x2.length : Int) (k : Int) x5 x6)
    rw [show decide ((k : Int) < (x2.length : Int)) = true from decide_eq_true (by omega), inB_nat2 hk, hx]
    exact Ev.pos rfl (Ev.pos rfl (Ev.ofBif h (fun h => (Ev.ofBind h fun y6 h => (Ev.ofBind h fun y7 h => (Ev.ofBif h (fun h => (Ev.ofSome h)) (fun h => (ih2  _ h)))))) (fun h => (ih2  _ h))))
theorem S_spec_KeptApart_0_5 {x1 : Int} {x3 : (List DRoleGrant)} {x6 : DRoleSet} {x7 : DRoleState} (hl : x3.length ≤ maxLen) : ∀ (rest : List DRoleGrant) (k : Nat) (x2 : (List (List Int))) (r : Bool), rest = x3.drop k → P_spec_KeptApart_0_5 x1 x6 x7 rest x2 = some r → Ev (fun n => L_spec_KeptApart_0_5 n x1 x2 x3 (x3.length : Int) (k : Int) x6 x7) r := by
  intro rest
  induction rest with
  | nil =>
    intro k x2 r hr h
    have hk := drop_nil hr
    rw [P_spec_KeptApart_0_5] at h
    refine Ev.step ?_ (fun n => L_spec_KeptApart_0_5_eq n x1 x2 x3 (x3.length : Int) (k : Int) x6 x7)
    rw [show decide ((k : Int) < (x3.length : Int)) = false from decide_eq_false (by omega)]
    exact Ev.neg rfl (Ev.ofLen h fun hl h => S_spec_KeptApart_0_13 hl _ (0 : Nat) _ rfl h)
  | cons e rest ih =>
    intro k x2 r hr h
    obtain ⟨hk, hx, hr2⟩ := drop_cons (d := (Ty.dflt TyRoleGrant)) hr
    have hw := wrap_succ hl hk
    have ih2 : ∀ (z2 : (List (List Int))) (r : Bool), P_spec_KeptApart_0_5 x1 x6 x7 rest z2 = some r → Ev (fun n => L_spec_KeptApart_0_5 n x1 z2 x3 (x3.length : Int) (IntKind.wrap .i64 ((k : Int) + 1)) x6 x7) r := by
      intro z2 r h; rw [hw]; exact ih (k + 1) z2 r hr2 h
    rw [P_spec_KeptApart_0_5] at h
    refine Ev.step ?_ (fun n => L_spec_KeptApart_0_5_eq n x1 x2 x3 (x3.length : Int) (k : Int) x6 x7)
    rw [show decide ((k : Int) < (x3.length : Int)) = true from decide_eq_true (by omega), inB_nat2 hk, hx]
    exact Ev.pos rfl (Ev.pos rfl (Ev.ofBind h fun y3 h => (Ev.ofBif h (fun h => (ih2 _ _ h)) (fun h => (Ev.ofBif h (fun h => (Ev.ofBind h fun y4 h => (Ev.ofBind h fun y5 h => (Ev.ofBif h (fun h => (Ev.ofSome h)) (fun h => (ih2 _ _ h)))))) (fun h => (Ev.ofNone h)))))))
theorem S_spec_KeptApart (a0 : DRoleSet) (a1 : DRoleState) (a2 : Int) {r : Bool} (h : P_spec_KeptApart a0 a1 a2 = some r) : Ev (fun n => F_spec_KeptApart n a0 a1 a2) r := by
  rw [P_spec_KeptApart] at h
  refine Ev.of_eq ?_ (fun n => F_spec_KeptApart_eq n a0 a1 a2)
  exact (Ev.ofBind h fun y1 h => (Ev.ofBif h (fun h => (Ev.ofSome h)) (fun h => (Ev.ofBif h (fun h => (Ev.ofSome h)) (fun h => (Ev.ofBind h fun y2 h => (Ev.ofBif h (fun h => (Ev.ofSome h)) (fun h => (Ev.ofLen h fun hl h => S_spec_KeptApart_0_5 hl _ (0 : Nat) _ _ rfl h)))))))))
theorem hcs_spec_KeptApart : ∀ x ∈ cs_spec_KeptApart, CtrOk Try.prog x := (conOf_cons ok_spec_GoodRoleSet (conOf_cons ok_spec_l15Small (conOf_cons ok_spec_l3Has (conOf_cons ok_spec_l15Authorised (conOf_cons ok_spec_l15Apart (conOf_cons ok_spec_l15Standing conOf_nil))))))
theorem ok_spec_KeptApart : CtrOk Try.prog c_spec_KeptApart := by
  refine ctr_of_run (c := c_spec_KeptApart) (by kernel_rfl) (by kernel_rfl : Try.prog.funcs[17]? = some Try.f17) (code := Try.f17.body.getD .skip) (by kernel_rfl) (by kernel_rfl) (by kernel_rfl) (A := A_spec_KeptApart) (I := In_spec_KeptApart) hcs_spec_KeptApart ?_
  rintro ⟨a0, a1, a2, u⟩ y hy
  exact (S_spec_KeptApart a0 a1 a2 hy).get

/-! ## impl.ydigit (149) -/
def T_impl_ydigit (a0 : Int) : Bool :=
  bif decide ((48 : Int) ≤ a0) then
    decide (a0 ≤ 57)
  else
    false
noncomputable def c_impl_ydigit : Ctr := ⟨149, [U8], [.bool], fun x => some (T_impl_ydigit x.1)⟩
def A_impl_ydigit : List (List Nat × Ann) := []
def In_impl_ydigit : List (List Nat × Nat) := []
noncomputable def cs_impl_ydigit : List Ctr := []
noncomputable def F_impl_ydigit (n : Nat) (a0 : Int) : Option Bool := run Try.prog A_impl_ydigit In_impl_ydigit (conOf cs_impl_ydigit) Try.f149 (Try.f149.body.getD .skip) (packT [.bool]) n (argsV [U8] (a0, ()))
theorem F_impl_ydigit_eq (n : Nat) (a0 : Int) : F_impl_ydigit n a0 =
    bif decide ((48 : Int) ≤ a0) then
      some (decide (a0 ≤ 57))
    else
      some false := by kernel_rfl
theorem S_impl_ydigit (n : Nat) (a0 : Int) : F_impl_ydigit n a0 = some (T_impl_ydigit a0) := (F_impl_ydigit_eq n a0).trans (cond_some rfl rfl)
theorem hcs_impl_ydigit : ∀ x ∈ cs_impl_ydigit, CtrOk Try.prog x := conOf_nil
theorem ok_impl_ydigit : CtrOk Try.prog c_impl_ydigit := by
  refine ctr_of_run (c := c_impl_ydigit) (by kernel_rfl) (by kernel_rfl : Try.prog.funcs[149]? = some Try.f149) (code := Try.f149.body.getD .skip) (by kernel_rfl) (by kernel_rfl) (by kernel_rfl) (A := A_impl_ydigit) (I := In_impl_ydigit) hcs_impl_ydigit ?_
  rintro ⟨a0, u⟩ y hy
  exact ⟨0, (S_impl_ydigit 0 a0).trans hy⟩

/-! ## impl.yletter (169) -/
def T_impl_yletter (a0 : Int) : Bool :=
  bif decide ((97 : Int) ≤ a0) then
    bif decide (a0 ≤ 122) then
      true
    else
      bif decide ((65 : Int) ≤ a0) then
        decide (a0 ≤ 90)
      else
        false
  else
    bif decide ((65 : Int) ≤ a0) then
      decide (a0 ≤ 90)
    else
      false
noncomputable def c_impl_yletter : Ctr := ⟨169, [U8], [.bool], fun x => some (T_impl_yletter x.1)⟩
def A_impl_yletter : List (List Nat × Ann) := []
def In_impl_yletter : List (List Nat × Nat) := []
noncomputable def cs_impl_yletter : List Ctr := []
noncomputable def F_impl_yletter (n : Nat) (a0 : Int) : Option Bool := run Try.prog A_impl_yletter In_impl_yletter (conOf cs_impl_yletter) Try.f169 (Try.f169.body.getD .skip) (packT [.bool]) n (argsV [U8] (a0, ()))
theorem F_impl_yletter_eq (n : Nat) (a0 : Int) : F_impl_yletter n a0 =
    bif decide ((97 : Int) ≤ a0) then
      bif decide (a0 ≤ 122) then
        some true
      else
        bif decide ((65 : Int) ≤ a0) then
          some (decide (a0 ≤ 90))
        else
          some false
    else
      bif decide ((65 : Int) ≤ a0) then
        some (decide (a0 ≤ 90))
      else
        some false := by kernel_rfl
theorem S_impl_yletter (n : Nat) (a0 : Int) : F_impl_yletter n a0 = some (T_impl_yletter a0) := (F_impl_yletter_eq n a0).trans (cond_some (cond_some rfl (cond_some rfl rfl)) (cond_some rfl rfl))
theorem hcs_impl_yletter : ∀ x ∈ cs_impl_yletter, CtrOk Try.prog x := conOf_nil
theorem ok_impl_yletter : CtrOk Try.prog c_impl_yletter := by
  refine ctr_of_run (c := c_impl_yletter) (by kernel_rfl) (by kernel_rfl : Try.prog.funcs[169]? = some Try.f169) (code := Try.f169.body.getD .skip) (by kernel_rfl) (by kernel_rfl) (by kernel_rfl) (A := A_impl_yletter) (I := In_impl_yletter) hcs_impl_yletter ?_
  rintro ⟨a0, u⟩ y hy
  exact ⟨0, (S_impl_yletter 0 a0).trans hy⟩

/-! ## impl.ywordByte (150) -/
def T_impl_ywordByte (a0 : Int) : Bool :=
  bif T_impl_yletter a0 then
    true
  else
    bif T_impl_ydigit a0 then
      true
    else
      decide (a0 = 95)
noncomputable def c_impl_ywordByte : Ctr := ⟨150, [U8], [.bool], fun x => some (T_impl_ywordByte x.1)⟩
def A_impl_ywordByte : List (List Nat × Ann) := []
def In_impl_ywordByte : List (List Nat × Nat) := []
noncomputable def cs_impl_ywordByte : List Ctr := [c_impl_yletter, c_impl_ydigit]
noncomputable def F_impl_ywordByte (n : Nat) (a0 : Int) : Option Bool := run Try.prog A_impl_ywordByte In_impl_ywordByte (conOf cs_impl_ywordByte) Try.f150 (Try.f150.body.getD .skip) (packT [.bool]) n (argsV [U8] (a0, ()))
theorem F_impl_ywordByte_eq (n : Nat) (a0 : Int) : F_impl_ywordByte n a0 =
    bif T_impl_yletter a0 then
      some true
    else
      bif T_impl_ydigit a0 then
        some true
      else
        some (decide (a0 = 95)) := by kernel_rfl
theorem S_impl_ywordByte (n : Nat) (a0 : Int) : F_impl_ywordByte n a0 = some (T_impl_ywordByte a0) := (F_impl_ywordByte_eq n a0).trans (cond_some rfl (cond_some rfl rfl))
theorem hcs_impl_ywordByte : ∀ x ∈ cs_impl_ywordByte, CtrOk Try.prog x := (conOf_cons ok_impl_yletter (conOf_cons ok_impl_ydigit conOf_nil))
theorem ok_impl_ywordByte : CtrOk Try.prog c_impl_ywordByte := by
  refine ctr_of_run (c := c_impl_ywordByte) (by kernel_rfl) (by kernel_rfl : Try.prog.funcs[150]? = some Try.f150) (code := Try.f150.body.getD .skip) (by kernel_rfl) (by kernel_rfl) (by kernel_rfl) (A := A_impl_ywordByte) (I := In_impl_ywordByte) hcs_impl_ywordByte ?_
  rintro ⟨a0, u⟩ y hy
  exact ⟨0, (S_impl_ywordByte 0 a0).trans hy⟩

/-! ## impl.GoodName (91) -/
noncomputable def P_impl_GoodName_0_4 : List Int → Option Bool
  | [] =>
      some true
  | e :: rest =>
      bif !(T_impl_ywordByte (e)) then
        some false
      else
        P_impl_GoodName_0_4 rest
noncomputable def P_impl_GoodName (a0 : (List Int)) : Option Bool :=
  bif decide (a0 = ([] : List Int)) then
    some false
  else
    bif decide ((30 : Int) < (a0.length : Int)) then
      some false
    else
      bif inB 0 a0.length then
        bif T_impl_ydigit (rd a0 0 0) then
          some false
        else
          lenOk a0 (P_impl_GoodName_0_4 a0)
      else none
noncomputable def c_impl_GoodName : Ctr := ⟨91, [.str], [.bool], fun x => P_impl_GoodName x.1⟩
def A_impl_GoodName : List (List Nat × Ann) := [([0, 4], [.keep 0 0, .keep 0 17, .keep 0 18])]
def In_impl_GoodName : List (List Nat × Nat) := []
noncomputable def cs_impl_GoodName : List Ctr := [c_impl_ydigit, c_impl_ywordByte]
noncomputable def F_impl_GoodName (n : Nat) (a0 : (List Int)) : Option Bool := run Try.prog A_impl_GoodName In_impl_GoodName (conOf cs_impl_GoodName) Try.f91 (Try.f91.body.getD .skip) (packT [.bool]) n (argsV [.str] (a0, ()))
noncomputable abbrev L_impl_GoodName_0_4 (n : Nat) (x1 : (List Int)) (x2 : Int) (x3 : Int) : Option Bool := lam Try.prog A_impl_GoodName In_impl_GoodName (conOf cs_impl_GoodName) Try.f91 (Try.f91.body.getD .skip) (packT [.bool]) n [0, 4] [.d .str x1, .d I64 x2, .d I64 x3]
theorem F_impl_GoodName_eq (n : Nat) (a0 : (List Int)) : F_impl_GoodName n a0 =
    bif decide (a0 = ([] : List Int)) then
      some false
    else
      bif decide ((30 : Int) < (a0.length : Int)) then
        some false
      else
        bif inB 0 a0.length then
          bif T_impl_ydigit (rd a0 0 0) then
            some false
          else
            L_impl_GoodName_0_4 n a0 (a0.length : Int) 0
        else none := by kernel_rfl
theorem L_impl_GoodName_0_4_eq (n : Nat) (x1 : (List Int)) (x2 : Int) (x3 : Int) : L_impl_GoodName_0_4 (n + 1) x1 x2 x3 =
    bif decide (x3 < x2) then
      bif inB x3 x1.length then
        bif !(T_impl_ywordByte (rd x1 x3 0)) then
          some false
        else
          L_impl_GoodName_0_4 n x1 x2 (IntKind.wrap .i64 (x3 + 1))
      else none
    else
      some true := by kernel_rfl
theorem S_impl_GoodName_0_4 {x1 : (List Int)} (hl : x1.length ≤ maxLen) : ∀ (rest : List Int) (k : Nat) (r : Bool), rest = x1.drop k → P_impl_GoodName_0_4 rest = some r → Ev (fun n => L_impl_GoodName_0_4 n x1 (x1.length : Int) (k : Int)) r := by
  intro rest
  induction rest with
  | nil =>
    intro k r hr h
    have hk := drop_nil hr
    rw [P_impl_GoodName_0_4] at h
    refine Ev.step ?_ (fun n => L_impl_GoodName_0_4_eq n x1 (x1.length : Int) (k : Int))
    rw [show decide ((k : Int) < (x1.length : Int)) = false from decide_eq_false (by omega)]
    exact Ev.neg rfl (Ev.ofSome h)
  | cons e rest ih =>
    intro k r hr h
    obtain ⟨hk, hx, hr2⟩ := drop_cons (d := 0) hr
    have hw := wrap_succ hl hk
    have ih2 : ∀ (r : Bool), P_impl_GoodName_0_4 rest = some r → Ev (fun n => L_impl_GoodName_0_4 n x1 (x1.length : Int) (IntKind.wrap .i64 ((k : Int) + 1))) r := by
      intro r h; rw [hw]; exact ih (k + 1) r hr2 h
    rw [P_impl_GoodName_0_4] at h
    refine Ev.step ?_ (fun n => L_impl_GoodName_0_4_eq n x1 (x1.length : Int) (k : Int))
    rw [show decide ((k : Int) < (x1.length : Int)) = true from decide_eq_true (by omega), inB_nat2 hk, hx]
    exact Ev.pos rfl (Ev.pos rfl (Ev.ofBif h (fun h => (Ev.ofSome h)) (fun h => (ih2  _ h))))
theorem S_impl_GoodName (a0 : (List Int)) {r : Bool} (h : P_impl_GoodName a0 = some r) : Ev (fun n => F_impl_GoodName n a0) r := by
  rw [P_impl_GoodName] at h
  refine Ev.of_eq ?_ (fun n => F_impl_GoodName_eq n a0)
  exact (Ev.ofBif h (fun h => (Ev.ofSome h)) (fun h => (Ev.ofBif h (fun h => (Ev.ofSome h)) (fun h => (Ev.ofBif h (fun h => (Ev.ofBif h (fun h => (Ev.ofSome h)) (fun h => (Ev.ofLen h fun hl h => S_impl_GoodName_0_4 hl _ (0 : Nat) _ rfl h)))) (fun h => (Ev.ofNone h)))))))
theorem hcs_impl_GoodName : ∀ x ∈ cs_impl_GoodName, CtrOk Try.prog x := (conOf_cons ok_impl_ydigit (conOf_cons ok_impl_ywordByte conOf_nil))
theorem ok_impl_GoodName : CtrOk Try.prog c_impl_GoodName := by
  refine ctr_of_run (c := c_impl_GoodName) (by kernel_rfl) (by kernel_rfl : Try.prog.funcs[91]? = some Try.f91) (code := Try.f91.body.getD .skip) (by kernel_rfl) (by kernel_rfl) (by kernel_rfl) (A := A_impl_GoodName) (I := In_impl_GoodName) hcs_impl_GoodName ?_
  rintro ⟨a0, u⟩ y hy
  exact (S_impl_GoodName a0 hy).get

/-! ## impl.yrising (123) -/
noncomputable def P_impl_yrising_0_2 (x1 : (List (List Int))) : List (List Int) → Nat → Option Bool
  | [], k =>
      some true
  | e :: rest, k =>
      bif decide ((0 : Int) < (k : Int)) then
        bif inB (IntKind.wrap .i64 ((k : Int) - 1)) x1.length then
          bif !lessI (rd x1 (IntKind.wrap .i64 ((k : Int) - 1)) (Ty.dflt .str)) (e) then
            some false
          else
            P_impl_yrising_0_2 x1 rest (k + 1)
        else none
      else
        P_impl_yrising_0_2 x1 rest (k + 1)
noncomputable def P_impl_yrising (a0 : (List (List Int))) : Option Bool :=
  lenOk a0 (P_impl_yrising_0_2 a0 a0 0)
noncomputable def c_impl_yrising : Ctr := ⟨123, [(.list .str)], [.bool], fun x => P_impl_yrising x.1⟩
def A_impl_yrising : List (List Nat × Ann) := [([0, 2], [.keep 0 0, .keep 0 5, .keep 0 6, .keep 0 7])]
def In_impl_yrising : List (List Nat × Nat) := []
noncomputable def cs_impl_yrising : List Ctr := []
noncomputable def F_impl_yrising (n : Nat) (a0 : (List (List Int))) : Option Bool := run Try.prog A_impl_yrising In_impl_yrising (conOf cs_impl_yrising) Try.f123 (Try.f123.body.getD .skip) (packT [.bool]) n (argsV [(.list .str)] (a0, ()))
noncomputable abbrev L_impl_yrising_0_2 (n : Nat) (x1 : (List (List Int))) (x2 : (List (List Int))) (x3 : Int) (x4 : Int) : Option Bool := lam Try.prog A_impl_yrising In_impl_yrising (conOf cs_impl_yrising) Try.f123 (Try.f123.body.getD .skip) (packT [.bool]) n [0, 2] [.d (.list .str) x1, .d (.list .str) x2, .d I64 x3, .d I64 x4]
theorem F_impl_yrising_eq (n : Nat) (a0 : (List (List Int))) : F_impl_yrising n a0 =
    L_impl_yrising_0_2 n a0 a0 (a0.length : Int) 0 := by kernel_rfl
theorem L_impl_yrising_0_2_eq (n : Nat) (x1 : (List (List Int))) (x2 : (List (List Int))) (x3 : Int) (x4 : Int) : L_impl_yrising_0_2 (n + 1) x1 x2 x3 x4 =
    bif decide (x4 < x3) then
      bif inB x4 x2.length then
        bif decide ((0 : Int) < x4) then
          bif inB (IntKind.wrap .i64 (x4 - 1)) x1.length then
            bif !lessI (rd x1 (IntKind.wrap .i64 (x4 - 1)) (Ty.dflt .str)) (rd x2 x4 (Ty.dflt .str)) then
              some false
            else
              L_impl_yrising_0_2 n x1 x2 x3 (IntKind.wrap .i64 (x4 + 1))
          else none
        else
          L_impl_yrising_0_2 n x1 x2 x3 (IntKind.wrap .i64 (x4 + 1))
      else none
    else
      some true := by kernel_rfl
theorem S_impl_yrising_0_2 {x1 : (List (List Int))} (hl : x1.length ≤ maxLen) : ∀ (rest : List (List Int)) (k : Nat) (r : Bool), rest = x1.drop k → P_impl_yrising_0_2 x1 rest k = some r → Ev (fun n => L_impl_yrising_0_2 n x1 x1 (x1.length : Int) (k : Int)) r := by
  intro rest
  induction rest with
  | nil =>
    intro k r hr h
    have hk := drop_nil hr
    rw [P_impl_yrising_0_2] at h
    refine Ev.step ?_ (fun n => L_impl_yrising_0_2_eq n x1 x1 (x1.length : Int) (k : Int))
    rw [show decide ((k : Int) < (x1.length : Int)) = false from decide_eq_false (by omega)]
    exact Ev.neg rfl (Ev.ofSome h)
  | cons e rest ih =>
    intro k r hr h
    obtain ⟨hk, hx, hr2⟩ := drop_cons (d := (Ty.dflt .str)) hr
    have hw := wrap_succ hl hk
    have ih2 : ∀ (r : Bool), P_impl_yrising_0_2 x1 rest (k + 1) = some r → Ev (fun n => L_impl_yrising_0_2 n x1 x1 (x1.length : Int) (IntKind.wrap .i64 ((k : Int) + 1))) r := by
      intro r h; rw [hw]; exact ih (k + 1) r hr2 h
    rw [P_impl_yrising_0_2] at h
    refine Ev.step ?_ (fun n => L_impl_yrising_0_2_eq n x1 x1 (x1.length : Int) (k : Int))
    rw [show decide ((k : Int) < (x1.length : Int)) = true from decide_eq_true (by omega), inB_nat2 hk, hx]
    exact Ev.pos rfl (Ev.pos rfl (Ev.ofBif h (fun h => (Ev.ofBif h (fun h => (Ev.ofBif h (fun h => (Ev.ofSome h)) (fun h => (ih2  _ h)))) (fun h => (Ev.ofNone h)))) (fun h => (ih2  _ h))))
theorem S_impl_yrising (a0 : (List (List Int))) {r : Bool} (h : P_impl_yrising a0 = some r) : Ev (fun n => F_impl_yrising n a0) r := by
  rw [P_impl_yrising] at h
  refine Ev.of_eq ?_ (fun n => F_impl_yrising_eq n a0)
  exact (Ev.ofLen h fun hl h => S_impl_yrising_0_2 hl _ (0 : Nat) _ rfl h)
theorem hcs_impl_yrising : ∀ x ∈ cs_impl_yrising, CtrOk Try.prog x := conOf_nil
theorem ok_impl_yrising : CtrOk Try.prog c_impl_yrising := by
  refine ctr_of_run (c := c_impl_yrising) (by kernel_rfl) (by kernel_rfl : Try.prog.funcs[123]? = some Try.f123) (code := Try.f123.body.getD .skip) (by kernel_rfl) (by kernel_rfl) (by kernel_rfl) (A := A_impl_yrising) (I := In_impl_yrising) hcs_impl_yrising ?_
  rintro ⟨a0, u⟩ y hy
  exact (S_impl_yrising a0 hy).get

/-! ## impl.RoleSet).yrole (121) -/
noncomputable def P_impl_RoleSet_yrole_0_2_1003 (x1 : (List Int)) : List DRole → Option (DRole × Bool)
  | [] =>
      some ((([] : List Int), [], []), false)
  | e :: rest =>
      bif decide ((e).1 = x1) then
        some ((e), true)
      else
        P_impl_RoleSet_yrole_0_2_1003 x1 rest
noncomputable def P_impl_RoleSet_yrole (a0 : DRoleSet) (a1 : (List Int)) : Option (DRole × Bool) :=
  lenOk a0.1 (P_impl_RoleSet_yrole_0_2_1003 a1 a0.1)
noncomputable def c_impl_RoleSet_yrole : Ctr := ⟨121, [TyRoleSet, .str], [TyRole, .bool], fun x => P_impl_RoleSet_yrole x.1 x.2.1⟩
def A_impl_RoleSet_yrole : List (List Nat × Ann) := [([0, 2, 1003], [.keep 0 4, .keep 1 1, .keep 1 2, .keep 1 6, .keep 1 11, .keep 1 12, .keep 1 13, .boxd 0 4 TyRole, .boxd 1 6 TyRole])]
def In_impl_RoleSet_yrole : List (List Nat × Nat) := [([1003], 158), ([4002, 1003], 159)]
noncomputable def cs_impl_RoleSet_yrole : List Ctr := []
noncomputable def F_impl_RoleSet_yrole (n : Nat) (a0 : DRoleSet) (a1 : (List Int)) : Option (DRole × Bool) := run Try.prog A_impl_RoleSet_yrole In_impl_RoleSet_yrole (conOf cs_impl_RoleSet_yrole) Try.f121 (Try.f121.body.getD .skip) (packT [TyRole, .bool]) n (argsV [TyRoleSet, .str] (a0, a1, ()))
noncomputable abbrev L_impl_RoleSet_yrole_0_2_1003 (n : Nat) (x1 : (List Int)) (x2 : (List DRole)) (x3 : Int) (x4 : Int) (x5 : DRole) (x6 : DRole) : Option (DRole × Bool) := lam Try.prog A_impl_RoleSet_yrole In_impl_RoleSet_yrole (conOf cs_impl_RoleSet_yrole) Try.f121 (Try.f121.body.getD .skip) (packT [TyRole, .bool]) n [0, 2, 1003] [.ptr 0 4 0, .fn 159 [], .d .str x1, .ptr 1 6 0, .d (.list TyRole) x2, .d I64 x3, .d I64 x4, .agg (explode TyRole x5), .agg (explode TyRole x6)]
theorem F_impl_RoleSet_yrole_eq (n : Nat) (a0 : DRoleSet) (a1 : (List Int)) : F_impl_RoleSet_yrole n a0 a1 =
    L_impl_RoleSet_yrole_0_2_1003 n a1 a0.1 (a0.1.length : Int) 0 (([] : List Int), [], []) (([] : List Int), [], []) := by kernel_rfl
theorem L_impl_RoleSet_yrole_0_2_1003_eq (n : Nat) (x1 : (List Int)) (x2 : (List DRole)) (x3 : Int) (x4 : Int) (x5 : DRole) (x6 : DRole) : L_impl_RoleSet_yrole_0_2_1003 (n + 1) x1 x2 x3 x4 x5 x6 =
    bif decide (x4 < x3) then
      bif inB x4 x2.length then
        bif decide ((rd x2 x4 (Ty.dflt TyRole)).1 = x1) then
          some ((rd x2 x4 (Ty.dflt TyRole)), true)
        else
          L_impl_RoleSet_yrole_0_2_1003 n x1 x2 x3 (IntKind.wrap .i64 (x4 + 1)) x5 x6
      else none
    else
      some ((([] : List Int), [], []), false) := by kernel_rfl
theorem S_impl_RoleSet_yrole_0_2_1003 {x1 : (List Int)} {x2 : (List DRole)} {x5 : DRole} (hl : x2.length ≤ maxLen) : ∀ (rest : List DRole) (k : Nat) (r : (DRole × Bool)), rest = x2.drop k → P_impl_RoleSet_yrole_0_2_1003 x1 rest = some r → Ev (fun n => L_impl_RoleSet_yrole_0_2_1003 n x1 x2 (x2.length : Int) (k : Int) x5 x5) r := by
  intro rest
  induction rest with
  | nil =>
    intro k r hr h
    have hk := drop_nil hr
    rw [P_impl_RoleSet_yrole_0_2_1003] at h
    refine Ev.step ?_ (fun n => L_impl_RoleSet_yrole_0_2_1003_eq n x1 x2 (x2.length : Int) (k : Int) x5 x5)
    rw [show decide ((k : Int) < (x2.length : Int)) = false from decide_eq_false (by omega)]
    exact Ev.neg rfl (Ev.ofSome h)
  | cons e rest ih =>
    intro k r hr h
    obtain ⟨hk, hx, hr2⟩ := drop_cons (d := (Ty.dflt TyRole)) hr
    have hw := wrap_succ hl hk
    have ih2 : ∀ (r : (DRole × Bool)), P_impl_RoleSet_yrole_0_2_1003 x1 rest = some r → Ev (fun n => L_impl_RoleSet_yrole_0_2_1003 n x1 x2 (x2.length : Int) (IntKind.wrap .i64 ((k : Int) + 1)) x5 x5) r := by
      intro r h; rw [hw]; exact ih (k + 1) r hr2 h
    rw [P_impl_RoleSet_yrole_0_2_1003] at h
    refine Ev.step ?_ (fun n => L_impl_RoleSet_yrole_0_2_1003_eq n x1 x2 (x2.length : Int) (k : Int) x5 x5)
    rw [show decide ((k : Int) < (x2.length : Int)) = true from decide_eq_true (by omega), inB_nat2 hk, hx]
    exact Ev.pos rfl (Ev.pos rfl (Ev.ofBif h (fun h => (Ev.ofSome h)) (fun h => (ih2  _ h))))
theorem S_impl_RoleSet_yrole (a0 : DRoleSet) (a1 : (List Int)) {r : (DRole × Bool)} (h : P_impl_RoleSet_yrole a0 a1 = some r) : Ev (fun n => F_impl_RoleSet_yrole n a0 a1) r := by
  rw [P_impl_RoleSet_yrole] at h
  refine Ev.of_eq ?_ (fun n => F_impl_RoleSet_yrole_eq n a0 a1)
  exact (Ev.ofLen h fun hl h => S_impl_RoleSet_yrole_0_2_1003 hl _ (0 : Nat) _ rfl h)
theorem hcs_impl_RoleSet_yrole : ∀ x ∈ cs_impl_RoleSet_yrole, CtrOk Try.prog x := conOf_nil
theorem ok_impl_RoleSet_yrole : CtrOk Try.prog c_impl_RoleSet_yrole := by
  refine ctr_of_run (c := c_impl_RoleSet_yrole) (by kernel_rfl) (by kernel_rfl : Try.prog.funcs[121]? = some Try.f121) (code := Try.f121.body.getD .skip) (by kernel_rfl) (by kernel_rfl) (by kernel_rfl) (A := A_impl_RoleSet_yrole) (I := In_impl_RoleSet_yrole) hcs_impl_RoleSet_yrole ?_
  rintro ⟨a0, a1, u⟩ y hy
  exact (S_impl_RoleSet_yrole a0 a1 hy).get

/-! ## impl.yallNames (126) -/
noncomputable def P_impl_yallNames_0_2_1002_1001 : List (List Int) → Nat → Option Bool
  | [], k =>
      some true
  | e :: rest, k =>
      Option.bind (P_impl_GoodName (e)) fun (y1 : Bool) =>
      bif !(y1) then
        some (!decide ((0 : Int) ≤ (k : Int)))
      else
        P_impl_yallNames_0_2_1002_1001 rest (k + 1)
noncomputable def P_impl_yallNames (a0 : (List (List Int))) : Option Bool :=
  lenOk a0 (P_impl_yallNames_0_2_1002_1001 a0 0)
noncomputable def c_impl_yallNames : Ctr := ⟨126, [(.list .str)], [.bool], fun x => P_impl_yallNames x.1⟩
def A_impl_yallNames : List (List Nat × Ann) := [([0, 2, 1002, 1001], [.keep 2 0, .keep 2 1, .keep 2 7, .keep 2 8])]
def In_impl_yallNames : List (List Nat × Nat) := [([1001], 124), ([1002, 1001], 160), ([4005, 1002, 1001], 161)]
noncomputable def cs_impl_yallNames : List Ctr := [c_impl_GoodName]
noncomputable def F_impl_yallNames (n : Nat) (a0 : (List (List Int))) : Option Bool := run Try.prog A_impl_yallNames In_impl_yallNames (conOf cs_impl_yallNames) Try.f126 (Try.f126.body.getD .skip) (packT [.bool]) n (argsV [(.list .str)] (a0, ()))
noncomputable abbrev L_impl_yallNames_0_2_1002_1001 (n : Nat) (x1 : (List (List Int))) (x2 : Int) (x3 : Int) : Option Bool := lam Try.prog A_impl_yallNames In_impl_yallNames (conOf cs_impl_yallNames) Try.f126 (Try.f126.body.getD .skip) (packT [.bool]) n [0, 2, 1002, 1001] [.d (.list .str) x1, .fn 161 [], .d I64 x2, .d I64 x3]
theorem F_impl_yallNames_eq (n : Nat) (a0 : (List (List Int))) : F_impl_yallNames n a0 =
    L_impl_yallNames_0_2_1002_1001 n a0 (a0.length : Int) 0 := by kernel_rfl
theorem L_impl_yallNames_0_2_1002_1001_eq (n : Nat) (x1 : (List (List Int))) (x2 : Int) (x3 : Int) : L_impl_yallNames_0_2_1002_1001 (n + 1) x1 x2 x3 =
    bif decide (x3 < x2) then
      bif inB x3 x1.length then
        Option.bind (P_impl_GoodName (rd x1 x3 (Ty.dflt .str))) fun (y1 : Bool) =>
        bif !(y1) then
          some (!decide ((0 : Int) ≤ x3))
        else
          L_impl_yallNames_0_2_1002_1001 n x1 x2 (IntKind.wrap .i64 (x3 + 1))
      else none
    else
      some true := by kernel_rfl
theorem S_impl_yallNames_0_2_1002_1001 {x1 : (List (List Int))} (hl : x1.length ≤ maxLen) : ∀ (rest : List (List Int)) (k : Nat) (r : Bool), rest = x1.drop k → P_impl_yallNames_0_2_1002_1001 rest k = some r → Ev (fun n => L_impl_yallNames_0_2_1002_1001 n x1 (x1.length : Int) (k : Int)) r := by
  intro rest
  induction rest with
  | nil =>
    intro k r hr h
    have hk := drop_nil hr
    rw [P_impl_yallNames_0_2_1002_1001] at h
    refine Ev.step ?_ (fun n => L_impl_yallNames_0_2_1002_1001_eq n x1 (x1.length : Int) (k : Int))
    rw [show decide ((k : Int) < (x1.length : Int)) = false from decide_eq_false (by omega)]
    exact Ev.neg rfl (Ev.ofSome h)
  | cons e rest ih =>
    intro k r hr h
    obtain ⟨hk, hx, hr2⟩ := drop_cons (d := (Ty.dflt .str)) hr
    have hw := wrap_succ hl hk
    have ih2 : ∀ (r : Bool), P_impl_yallNames_0_2_1002_1001 rest (k + 1) = some r → Ev (fun n => L_impl_yallNames_0_2_1002_1001 n x1 (x1.length : Int) (IntKind.wrap .i64 ((k : Int) + 1))) r := by
      intro r h; rw [hw]; exact ih (k + 1) r hr2 h
    rw [P_impl_yallNames_0_2_1002_1001] at h
    refine Ev.step ?_ (fun n => L_impl_yallNames_0_2_1002_1001_eq n x1 (x1.length : Int) (k : Int))
    rw [show decide ((k : Int) < (x1.length : Int)) = true from decide_eq_true (by omega), inB_nat2 hk, hx]
    exact Ev.pos rfl (Ev.pos rfl (Ev.ofBind h fun y1 h => (Ev.ofBif h (fun h => (Ev.ofSome h)) (fun h => (ih2  _ h)))))
theorem S_impl_yallNames (a0 : (List (List Int))) {r : Bool} (h : P_impl_yallNames a0 = some r) : Ev (fun n => F_impl_yallNames n a0) r := by
  rw [P_impl_yallNames] at h
  refine Ev.of_eq ?_ (fun n => F_impl_yallNames_eq n a0)
  exact (Ev.ofLen h fun hl h => S_impl_yallNames_0_2_1002_1001 hl _ (0 : Nat) _ rfl h)
theorem hcs_impl_yallNames : ∀ x ∈ cs_impl_yallNames, CtrOk Try.prog x := (conOf_cons ok_impl_GoodName conOf_nil)
theorem ok_impl_yallNames : CtrOk Try.prog c_impl_yallNames := by
  refine ctr_of_run (c := c_impl_yallNames) (by kernel_rfl) (by kernel_rfl : Try.prog.funcs[126]? = some Try.f126) (code := Try.f126.body.getD .skip) (by kernel_rfl) (by kernel_rfl) (by kernel_rfl) (A := A_impl_yallNames) (I := In_impl_yallNames) hcs_impl_yallNames ?_
  rintro ⟨a0, u⟩ y hy
  exact (S_impl_yallNames a0 hy).get

/-! ## slices.Clone[[]string,string] (128) -/
noncomputable def P_slices_Clone_string_string (a0 : (List (List Int))) : Option (List (List Int)) :=
  bif decide (0 < a0.length) then
    bif decide (((([] : List (List Int)).length : Int) + (a0.length : Int)) * 16 ≤ room) && decide ((([] : List (List Int)).length : Int) + (a0.length : Int) ≤ room) then
      some (([] : List (List Int)) ++ a0)
    else none
  else
    both
      (some ([]))
      (bif decide (((([] : List (List Int)).length : Int) + (a0.length : Int)) * 16 ≤ room) && decide ((([] : List (List Int)).length : Int) + (a0.length : Int) ≤ room) then
        some (([] : List (List Int)) ++ a0)
      else none)
noncomputable def c_slices_Clone_string_string : Ctr := ⟨128, [(.list .str)], [(.list .str)], fun x => P_slices_Clone_string_string x.1⟩
def A_slices_Clone_string_string : List (List Nat × Ann) := []
def In_slices_Clone_string_string : List (List Nat × Nat) := []
noncomputable def cs_slices_Clone_string_string : List Ctr := []
noncomputable def F_slices_Clone_string_string (n : Nat) (a0 : (List (List Int))) : Option (List (List Int)) := run Try.prog A_slices_Clone_string_string In_slices_Clone_string_string (conOf cs_slices_Clone_string_string) Try.f128 (Try.f128.body.getD .skip) (packT [(.list .str)]) n (argsV [(.list .str)] (a0, ()))
theorem F_slices_Clone_string_string_eq (n : Nat) (a0 : (List (List Int))) : F_slices_Clone_string_string n a0 =
    bif decide (0 < a0.length) then
      bif decide (((([] : List (List Int)).length : Int) + (a0.length : Int)) * 16 ≤ room) && decide ((([] : List (List Int)).length : Int) + (a0.length : Int) ≤ room) then
        some (([] : List (List Int)) ++ a0)
      else none
    else
      both
        (some ([]))
        (bif decide (((([] : List (List Int)).length : Int) + (a0.length : Int)) * 16 ≤ room) && decide ((([] : List (List Int)).length : Int) + (a0.length : Int) ≤ room) then
          some (([] : List (List Int)) ++ a0)
        else none) := by kernel_rfl
theorem S_slices_Clone_string_string (a0 : (List (List Int))) {r : (List (List Int))} (h : P_slices_Clone_string_string a0 = some r) : Ev (fun n => F_slices_Clone_string_string n a0) r := by
  rw [P_slices_Clone_string_string] at h
  refine Ev.of_eq ?_ (fun n => F_slices_Clone_string_string_eq n a0)
  exact (Ev.ofBif h (fun h => (Ev.ofBif h (fun h => (Ev.ofSome h)) (fun h => (Ev.ofNone h)))) (fun h => (Ev.ofBoth h (fun h => (Ev.ofSome h)) (fun h => (Ev.ofBif h (fun h => (Ev.ofSome h)) (fun h => (Ev.ofNone h)))))))
theorem hcs_slices_Clone_string_string : ∀ x ∈ cs_slices_Clone_string_string, CtrOk Try.prog x := conOf_nil
theorem ok_slices_Clone_string_string : CtrOk Try.prog c_slices_Clone_string_string := by
  refine ctr_of_run (c := c_slices_Clone_string_string) (by kernel_rfl) (by kernel_rfl : Try.prog.funcs[128]? = some Try.f128) (code := Try.f128.body.getD .skip) (by kernel_rfl) (by kernel_rfl) (by kernel_rfl) (A := A_slices_Clone_string_string) (I := In_slices_Clone_string_string) hcs_slices_Clone_string_string ?_
  rintro ⟨a0, u⟩ y hy
  exact (S_slices_Clone_string_string a0 hy).get

/-! ## slices.Clone[[]string,string] (128) -/
noncomputable def co_slices_Clone_string_string : Ctr := ownOf 128 [(.list .str)] .str fun x => P_slices_Clone_string_string x.1
def Ao_slices_Clone_string_string : List (List Nat × Ann) := []
def Ino_slices_Clone_string_string : List (List Nat × Nat) := []
noncomputable def cso_slices_Clone_string_string : List Ctr := []
noncomputable def Fo_slices_Clone_string_string (n : Nat) (a0 : (List (List Int))) : Option (List (List Int)) := runE Try.prog Ao_slices_Clone_string_string Ino_slices_Clone_string_string (conOf cso_slices_Clone_string_string) Try.f128 (Try.f128.body.getD .skip) (endO Try.prog Try.f128 .str) n (argsV [(.list .str)] (a0, ()))
theorem Fo_slices_Clone_string_string_eq (n : Nat) (a0 : (List (List Int))) : Fo_slices_Clone_string_string n a0 =
    bif decide (0 < a0.length) then
      bif decide (((([] : List (List Int)).length : Int) + (a0.length : Int)) * 16 ≤ room) && decide ((([] : List (List Int)).length : Int) + (a0.length : Int) ≤ room) then
        some (([] : List (List Int)) ++ a0)
      else none
    else
      both
        (some ([]))
        (bif decide (((([] : List (List Int)).length : Int) + (a0.length : Int)) * 16 ≤ room) && decide ((([] : List (List Int)).length : Int) + (a0.length : Int) ≤ room) then
          some (([] : List (List Int)) ++ a0)
        else none) := by kernel_rfl
theorem So_slices_Clone_string_string (a0 : (List (List Int))) {r : (List (List Int))} (h : P_slices_Clone_string_string a0 = some r) : Ev (fun n => Fo_slices_Clone_string_string n a0) r := by
  rw [P_slices_Clone_string_string] at h
  refine Ev.of_eq ?_ (fun n => Fo_slices_Clone_string_string_eq n a0)
  exact (Ev.ofBif h (fun h => (Ev.ofBif h (fun h => (Ev.ofSome h)) (fun h => (Ev.ofNone h)))) (fun h => (Ev.ofBoth h (fun h => (Ev.ofSome h)) (fun h => (Ev.ofBif h (fun h => (Ev.ofSome h)) (fun h => (Ev.ofNone h)))))))
theorem hcso_slices_Clone_string_string : ∀ x ∈ cso_slices_Clone_string_string, CtrOk Try.prog x := conOf_nil
theorem oko_slices_Clone_string_string : CtrOk Try.prog co_slices_Clone_string_string := by
  refine ctr_of_own (by kernel_rfl : Try.prog.funcs[128]? = some Try.f128) (code := Try.f128.body.getD .skip) (by kernel_rfl) (by kernel_rfl) (A := Ao_slices_Clone_string_string) (I := Ino_slices_Clone_string_string) hcso_slices_Clone_string_string ?_
  rintro ⟨a0, u⟩ y hy
  exact (So_slices_Clone_string_string a0 hy).get

/-! ## impl.RoleSet).yjuniors (73) -/
noncomputable def P_impl_RoleSet_yjuniors_0_3 (x2 : DRoleSet) : Nat → (List (List Int)) → (List ((List Int) × Bool)) → Option (List ((List Int) × Bool))
  | 0, _, _ => none
  | m + 1, x1, x3 =>
      bif decide ((0 : Int) < (x1.length : Int)) then
        bif inB 0 x1.length then
          Option.bind (P_impl_RoleSet_yrole x2 (rd x1 0 (Ty.dflt .str))) fun (y2 : (DRole × Bool)) =>
          bif !(y2.2) then
            bif true && decide ((1 : Int) ≤ (x1.length : Int)) then
              P_impl_RoleSet_yjuniors_0_3 x2 m (cut x1 1 (x1.length : Int)) x3
            else none
          else
            bif getM .str x3 y2.1.1 false then
              bif true && decide ((1 : Int) ≤ (x1.length : Int)) then
                P_impl_RoleSet_yjuniors_0_3 x2 m (cut x1 1 (x1.length : Int)) x3
              else none
            else
              bif decide (((x1.length : Int) + (y2.1.2.1.length : Int)) * 16 ≤ room) && decide ((x1.length : Int) + (y2.1.2.1.length : Int) ≤ room) then
                bif true && decide ((1 : Int) ≤ ((x1 ++ y2.1.2.1).length : Int)) then
                  P_impl_RoleSet_yjuniors_0_3 x2 m (cut (x1 ++ y2.1.2.1) 1 ((x1 ++ y2.1.2.1).length : Int)) (setM .str x3 y2.1.1 true)
                else none
              else none
        else none
      else
        some x3
noncomputable def P_impl_RoleSet_yjuniors (m : Nat) (a0 : DRoleSet) (a1 : (List (List Int))) : Option (List ((List Int) × Bool)) :=
  Option.bind (P_slices_Clone_string_string a1) fun (y1 : (List (List Int))) =>
  P_impl_RoleSet_yjuniors_0_3 a0 m y1 []
noncomputable def E_impl_RoleSet_yjuniors (a0 : DRoleSet) (a1 : (List (List Int))) : Option (List ((List Int) × Bool)) := evOpt fun m => P_impl_RoleSet_yjuniors m a0 a1
noncomputable def c_impl_RoleSet_yjuniors : Ctr := ⟨73, [TyRoleSet, (.list .str)], [(.map .str .bool)], fun x => E_impl_RoleSet_yjuniors x.1 x.2.1⟩
def A_impl_RoleSet_yjuniors : List (List Nat × Ann) := [([0, 3], [.keep 0 2, .keep 0 5, .own 0 6 .str, .boxd 0 2 TyRoleSet, .mapb 0 9 .str .bool])]
def In_impl_RoleSet_yjuniors : List (List Nat × Nat) := [([2001], 1000128)]
noncomputable def cs_impl_RoleSet_yjuniors : List Ctr := [co_slices_Clone_string_string, c_impl_RoleSet_yrole]
noncomputable def F_impl_RoleSet_yjuniors (n : Nat) (a0 : DRoleSet) (a1 : (List (List Int))) : Option (List ((List Int) × Bool)) := run Try.prog A_impl_RoleSet_yjuniors In_impl_RoleSet_yjuniors (conOf cs_impl_RoleSet_yjuniors) Try.f73 (Try.f73.body.getD .skip) (packT [(.map .str .bool)]) n (argsV [TyRoleSet, (.list .str)] (a0, a1, ()))
noncomputable abbrev L_impl_RoleSet_yjuniors_0_3 (n : Nat) (x1 : (List (List Int))) (x2 : DRoleSet) (x3 : (List ((List Int) × Bool))) : Option (List ((List Int) × Bool)) := lam Try.prog A_impl_RoleSet_yjuniors In_impl_RoleSet_yjuniors (conOf cs_impl_RoleSet_yjuniors) Try.f73 (Try.f73.body.getD .skip) (packT [(.map .str .bool)]) n [0, 3] [.ptr 0 2 0, .mp 0 9, .own 0 .str x1, .agg (explode TyRoleSet x2), .d (.map .str .bool) x3]
theorem F_impl_RoleSet_yjuniors_eq (n : Nat) (a0 : DRoleSet) (a1 : (List (List Int))) : F_impl_RoleSet_yjuniors n a0 a1 =
    Option.bind (P_slices_Clone_string_string a1) fun (y1 : (List (List Int))) =>
    L_impl_RoleSet_yjuniors_0_3 n y1 a0 [] := by kernel_rfl
theorem L_impl_RoleSet_yjuniors_0_3_eq (n : Nat) (x1 : (List (List Int))) (x2 : DRoleSet) (x3 : (List ((List Int) × Bool))) : L_impl_RoleSet_yjuniors_0_3 (n + 1) x1 x2 x3 =
    bif decide ((0 : Int) < (x1.length : Int)) then
      bif inB 0 x1.length then
        Option.bind (P_impl_RoleSet_yrole x2 (rd x1 0 (Ty.dflt .str))) fun (y2 : (DRole × Bool)) =>
        bif !(y2.2) then
          bif true && decide ((1 : Int) ≤ (x1.length : Int)) then
            L_impl_RoleSet_yjuniors_0_3 n (cut x1 1 (x1.length : Int)) x2 x3
          else none
        else
          bif getM .str x3 y2.1.1 false then
            bif true && decide ((1 : Int) ≤ (x1.length : Int)) then
              L_impl_RoleSet_yjuniors_0_3 n (cut x1 1 (x1.length : Int)) x2 x3
            else none
          else
            bif decide (((x1.length : Int) + (y2.1.2.1.length : Int)) * 16 ≤ room) && decide ((x1.length : Int) + (y2.1.2.1.length : Int) ≤ room) then
              bif true && decide ((1 : Int) ≤ ((x1 ++ y2.1.2.1).length : Int)) then
                L_impl_RoleSet_yjuniors_0_3 n (cut (x1 ++ y2.1.2.1) 1 ((x1 ++ y2.1.2.1).length : Int)) x2 (setM .str x3 y2.1.1 true)
              else none
            else none
      else none
    else
      some x3 := by kernel_rfl
theorem S_impl_RoleSet_yjuniors_0_3 {x2 : DRoleSet} : ∀ (m : Nat) (x1 : (List (List Int))) (x3 : (List ((List Int) × Bool))) (r : (List ((List Int) × Bool))), P_impl_RoleSet_yjuniors_0_3 x2 m x1 x3 = some r → Ev (fun n => L_impl_RoleSet_yjuniors_0_3 n x1 x2 x3) r := by
  intro m
  induction m with
  | zero => intro x1 x3 r h; rw [P_impl_RoleSet_yjuniors_0_3] at h; exact Ev.ofNone h
  | succ m ih2 =>
    intro x1 x3 r h
    rw [P_impl_RoleSet_yjuniors_0_3] at h
    refine Ev.step ?_ (fun n => L_impl_RoleSet_yjuniors_0_3_eq n x1 x2 x3)
    exact (Ev.ofBif h (fun h => (Ev.ofBif h (fun h => (Ev.ofBind h fun y2 h => (Ev.ofBif h (fun h => (Ev.ofBif h (fun h => (ih2 _ _ _ h)) (fun h => (Ev.ofNone h)))) (fun h => (Ev.ofBif h (fun h => (Ev.ofBif h (fun h => (ih2 _ _ _ h)) (fun h => (Ev.ofNone h)))) (fun h => (Ev.ofBif h (fun h => (Ev.ofBif h (fun h => (ih2 _ _ _ h)) (fun h => (Ev.ofNone h)))) (fun h => (Ev.ofNone h))))))))) (fun h => (Ev.ofNone h)))) (fun h => (Ev.ofSome h)))
theorem S_impl_RoleSet_yjuniors {m : Nat} (a0 : DRoleSet) (a1 : (List (List Int))) {r : (List ((List Int) × Bool))} (h : P_impl_RoleSet_yjuniors m a0 a1 = some r) : Ev (fun n => F_impl_RoleSet_yjuniors n a0 a1) r := by
  rw [P_impl_RoleSet_yjuniors] at h
  refine Ev.of_eq ?_ (fun n => F_impl_RoleSet_yjuniors_eq n a0 a1)
  exact (Ev.ofBind h fun y1 h => (S_impl_RoleSet_yjuniors_0_3 _ _ _ _ h))
theorem hcs_impl_RoleSet_yjuniors : ∀ x ∈ cs_impl_RoleSet_yjuniors, CtrOk Try.prog x := (conOf_cons oko_slices_Clone_string_string (conOf_cons ok_impl_RoleSet_yrole conOf_nil))
theorem ok_impl_RoleSet_yjuniors : CtrOk Try.prog c_impl_RoleSet_yjuniors := by
  refine ctr_of_run (c := c_impl_RoleSet_yjuniors) (by kernel_rfl) (by kernel_rfl : Try.prog.funcs[73]? = some Try.f73) (code := Try.f73.body.getD .skip) (by kernel_rfl) (by kernel_rfl) (by kernel_rfl) (A := A_impl_RoleSet_yjuniors) (I := In_impl_RoleSet_yjuniors) hcs_impl_RoleSet_yjuniors ?_
  rintro ⟨a0, a1, u⟩ y hy
  exact let ⟨_, h⟩ := (evOpt_get hy).get; (S_impl_RoleSet_yjuniors a0 a1 h).get

/-! ## impl.GoodRoleSet (71) -/
noncomputable def P_impl_GoodRoleSet_0_2_1002_1005_8024 (K0 : Option Bool) (x9 : DRoleSet) (x10 : DRole) : List (List Int) → Nat → Option Bool
  | [], k =>
      bif false then
        some false
      else
        bif decide ((20 : Int) < (x10.2.2.length : Int)) then
          some false
        else
          Option.bind (P_impl_yrising x10.2.2) fun (y6 : Bool) =>
          bif !(y6) then
            some false
          else
            Option.bind (P_impl_yallNames x10.2.2) fun (y7 : Bool) =>
            bif !(y7) then
              some false
            else
              K0
  | e :: rest, k =>
      Option.bind (P_impl_RoleSet_yrole x9 (e)) fun (y3 : (DRole × Bool)) =>
      bif !(y3.2) then
        bif false then
          some false
        else
          bif !(!decide ((0 : Int) ≤ (k : Int))) then
            some false
          else
            bif decide ((20 : Int) < (x10.2.2.length : Int)) then
              some false
            else
              Option.bind (P_impl_yrising x10.2.2) fun (y4 : Bool) =>
              bif !(y4) then
                some false
              else
                Option.bind (P_impl_yallNames x10.2.2) fun (y5 : Bool) =>
                bif !(y5) then
                  some false
                else
                  K0
      else
        P_impl_GoodRoleSet_0_2_1002_1005_8024 K0 x9 x10 rest (k + 1)
noncomputable def P_impl_GoodRoleSet_0_2_1002_1005_20003 (K3 : Option Bool) (x8 : DRoleSet) (x9 : DApart) : List (List Int) → Nat → Option Bool
  | [], k =>
      bif decide ((x9.1.length : Int) < 2) then
        some false
      else
        bif decide (x9.2.1 < 1) then
          some false
        else
          bif decide (IntKind.wrap .i64 ((x9.1.length : Int) - 1) < x9.2.1) then
            some false
          else
            K3
  | e :: rest, k =>
      Option.bind (P_impl_RoleSet_yrole x8 (e)) fun (y11 : (DRole × Bool)) =>
      bif !(y11.2) then
        bif !(!decide ((0 : Int) ≤ (k : Int))) then
          some false
        else
          bif decide ((x9.1.length : Int) < 2) then
            some false
          else
            bif decide (x9.2.1 < 1) then
              some false
            else
              bif decide (IntKind.wrap .i64 ((x9.1.length : Int) - 1) < x9.2.1) then
                some false
              else
                K3
      else
        P_impl_GoodRoleSet_0_2_1002_1005_20003 K3 x8 x9 rest (k + 1)
noncomputable def P_impl_GoodRoleSet_0_2_1002_1005_23003 (x5 : DRoleSet) : List (List Int) → Nat → Option Bool
  | [], k =>
      some true
  | e :: rest, k =>
      Option.bind (P_impl_RoleSet_yrole x5 (e)) fun (y13 : (DRole × Bool)) =>
      bif !(y13.2) then
        some (!decide ((0 : Int) ≤ (k : Int)))
      else
        P_impl_GoodRoleSet_0_2_1002_1005_23003 x5 rest (k + 1)
noncomputable def P_impl_GoodRoleSet_0_18 (x4 : DRoleSet) : List DApart → Option Bool
  | [] =>
      Option.bind (P_impl_yrising x4.2.2) fun (y12 : Bool) =>
      bif y12 then
        lenOk x4.2.2 (P_impl_GoodRoleSet_0_2_1002_1005_23003 x4 x4.2.2 0)
      else
        some false
  | e :: rest =>
      Option.bind (P_impl_yrising ((e).1)) fun (y10 : Bool) =>
      bif y10 then
        lenOk ((e).1) (P_impl_GoodRoleSet_0_2_1002_1005_20003 (P_impl_GoodRoleSet_0_18 x4 rest) x4 (e) ((e).1) 0)
      else
        some false
noncomputable def P_impl_GoodRoleSet_0_12 (x4 : DRoleSet) : List DRole → Option Bool
  | [] =>
      lenOk x4.2.1 (P_impl_GoodRoleSet_0_18 x4 x4.2.1)
  | e :: rest =>
      Option.bind (E_impl_RoleSet_yjuniors x4 (((e).2).1)) fun (y9 : (List ((List Int) × Bool))) =>
      bif getM .str y9 ((e).1) false then
        some false
      else
        P_impl_GoodRoleSet_0_12 x4 rest
noncomputable def P_impl_GoodRoleSet_0_6 (x4 : DRoleSet) : List DRole → Nat → Option Bool
  | [], k =>
      lenOk x4.1 (P_impl_GoodRoleSet_0_12 x4 x4.1)
  | e :: rest, k =>
      Option.bind (P_impl_GoodName ((e).1)) fun (y1 : Bool) =>
      bif !(y1) then
        some false
      else
        bif decide ((0 : Int) < (k : Int)) then
          bif inB (IntKind.wrap .i64 ((k : Int) - 1)) x4.1.length then
            bif !lessI ((rd x4.1 (IntKind.wrap .i64 ((k : Int) - 1)) (Ty.dflt TyRole)).1) ((e).1) then
              some false
            else
              Option.bind (P_impl_yrising (((e).2).1)) fun (y2 : Bool) =>
              bif y2 then
                lenOk (((e).2).1) (P_impl_GoodRoleSet_0_2_1002_1005_8024 (P_impl_GoodRoleSet_0_6 x4 rest (k + 1)) x4 (e) (((e).2).1) 0)
              else
                some false
          else none
        else
          Option.bind (P_impl_yrising (((e).2).1)) fun (y8 : Bool) =>
          bif y8 then
            lenOk (((e).2).1) (P_impl_GoodRoleSet_0_2_1002_1005_8024 (P_impl_GoodRoleSet_0_6 x4 rest (k + 1)) x4 (e) (((e).2).1) 0)
          else
            some false
noncomputable def P_impl_GoodRoleSet (a0 : DRoleSet) : Option Bool :=
  bif decide ((30 : Int) < (a0.1.length : Int)) then
    some false
  else
    bif decide ((10 : Int) < (a0.2.1.length : Int)) then
      some false
    else
      lenOk a0.1 (P_impl_GoodRoleSet_0_6 a0 a0.1 0)
noncomputable def c_impl_GoodRoleSet : Ctr := ⟨71, [TyRoleSet], [.bool], fun x => P_impl_GoodRoleSet x.1⟩
def A_impl_GoodRoleSet : List (List Nat × Ann) := [([0, 6], [.keep 0 1, .keep 0 4, .keep 0 24, .keep 0 25, .keep 0 26, .boxd 0 1 TyRoleSet, .box 0 3 1]), ([0, 2, 1002, 1005, 8024], [.keep 0 1, .keep 0 4, .keep 0 6, .keep 0 24, .keep 0 25, .keep 0 26, .keep 0 51, .keep 1 6, .keep 3 0, .keep 3 1, .keep 3 7, .keep 3 8, .boxd 0 1 TyRoleSet, .box 0 3 1, .boxd 0 6 TyRole]), ([0, 12], [.keep 0 1, .keep 0 4, .keep 0 78, .keep 0 79, .keep 0 80, .boxd 0 1 TyRoleSet, .box 0 3 1]), ([0, 18], [.keep 0 1, .keep 0 4, .keep 0 93, .keep 0 94, .keep 0 95, .boxd 0 1 TyRoleSet, .box 0 3 1]), ([0, 2, 1002, 1005, 20003], [.keep 0 1, .keep 0 4, .keep 0 10, .keep 0 93, .keep 0 94, .keep 0 95, .keep 1 6, .keep 3 0, .keep 3 1, .keep 3 7, .keep 3 8, .boxd 0 1 TyRoleSet, .box 0 3 1, .boxd 0 10 TyApart]), ([0, 2, 1002, 1005, 23003], [.keep 1 6, .keep 3 0, .keep 3 1, .keep 3 7, .keep 3 8, .box 0 3 1, .boxd 0 1 TyRoleSet])]
def In_impl_GoodRoleSet : List (List Nat × Nat) := [([8024], 122), ([1005, 8024], 124), ([1002, 1005, 8024], 160), ([4005, 1002, 1005, 8024], 125), ([1002, 4005, 1002, 1005, 8024], 120), ([20003], 122), ([1005, 20003], 124), ([1002, 1005, 20003], 160), ([4005, 1002, 1005, 20003], 125), ([1002, 4005, 1002, 1005, 20003], 120), ([23003], 122), ([1005, 23003], 124), ([1002, 1005, 23003], 160), ([4005, 1002, 1005, 23003], 125), ([1002, 4005, 1002, 1005, 23003], 120)]
noncomputable def cs_impl_GoodRoleSet : List Ctr := [c_impl_GoodName, c_impl_yrising, c_impl_RoleSet_yrole, c_impl_yallNames, c_impl_RoleSet_yjuniors]
noncomputable def F_impl_GoodRoleSet (n : Nat) (a0 : DRoleSet) : Option Bool := run Try.prog A_impl_GoodRoleSet In_impl_GoodRoleSet (conOf cs_impl_GoodRoleSet) Try.f71 (Try.f71.body.getD .skip) (packT [.bool]) n (argsV [TyRoleSet] (a0, ()))
noncomputable abbrev L_impl_GoodRoleSet_0_6 (n : Nat) (x1 : (List DRole)) (x2 : Int) (x3 : Int) (x4 : DRoleSet) : Option Bool := lam Try.prog A_impl_GoodRoleSet In_impl_GoodRoleSet (conOf cs_impl_GoodRoleSet) Try.f71 (Try.f71.body.getD .skip) (packT [.bool]) n [0, 6] [.ptr 0 1 0, .fn 122 [.ptr 0 3 0], .d (.list TyRole) x1, .d I64 x2, .d I64 x3, .agg (explode TyRoleSet x4), .agg [.fn 120 [.ptr 0 1 0]]]
noncomputable abbrev L_impl_GoodRoleSet_0_2_1002_1005_8024 (n : Nat) (x1 : (List DRole)) (x2 : Int) (x3 : Int) (x4 : Bool) (x5 : Bool) (x6 : (List (List Int))) (x7 : Int) (x8 : Int) (x9 : DRoleSet) (x10 : DRole) : Option Bool := lam Try.prog A_impl_GoodRoleSet In_impl_GoodRoleSet (conOf cs_impl_GoodRoleSet) Try.f71 (Try.f71.body.getD .skip) (packT [.bool]) n [0, 2, 1002, 1005, 8024] [.ptr 0 1 0, .fn 122 [.ptr 0 3 0], .ptr 0 6 0, .d (.list TyRole) x1, .d I64 x2, .d I64 x3, .d .bool x4, .d .bool x5, .d (.list .str) x6, .fn 125 [.ptr 0 3 0], .d I64 x7, .d I64 x8, .agg (explode TyRoleSet x9), .agg [.fn 120 [.ptr 0 1 0]], .agg (explode TyRole x10)]
noncomputable abbrev L_impl_GoodRoleSet_0_12 (n : Nat) (x1 : (List DRole)) (x2 : Int) (x3 : Int) (x4 : DRoleSet) : Option Bool := lam Try.prog A_impl_GoodRoleSet In_impl_GoodRoleSet (conOf cs_impl_GoodRoleSet) Try.f71 (Try.f71.body.getD .skip) (packT [.bool]) n [0, 12] [.ptr 0 1 0, .fn 122 [.ptr 0 3 0], .d (.list TyRole) x1, .d I64 x2, .d I64 x3, .agg (explode TyRoleSet x4), .agg [.fn 120 [.ptr 0 1 0]]]
noncomputable abbrev L_impl_GoodRoleSet_0_18 (n : Nat) (x1 : (List DApart)) (x2 : Int) (x3 : Int) (x4 : DRoleSet) : Option Bool := lam Try.prog A_impl_GoodRoleSet In_impl_GoodRoleSet (conOf cs_impl_GoodRoleSet) Try.f71 (Try.f71.body.getD .skip) (packT [.bool]) n [0, 18] [.ptr 0 1 0, .fn 122 [.ptr 0 3 0], .d (.list TyApart) x1, .d I64 x2, .d I64 x3, .agg (explode TyRoleSet x4), .agg [.fn 120 [.ptr 0 1 0]]]
noncomputable abbrev L_impl_GoodRoleSet_0_2_1002_1005_20003 (n : Nat) (x1 : (List DApart)) (x2 : Int) (x3 : Int) (x4 : Bool) (x5 : (List (List Int))) (x6 : Int) (x7 : Int) (x8 : DRoleSet) (x9 : DApart) : Option Bool := lam Try.prog A_impl_GoodRoleSet In_impl_GoodRoleSet (conOf cs_impl_GoodRoleSet) Try.f71 (Try.f71.body.getD .skip) (packT [.bool]) n [0, 2, 1002, 1005, 20003] [.ptr 0 1 0, .fn 122 [.ptr 0 3 0], .ptr 0 10 0, .d (.list TyApart) x1, .d I64 x2, .d I64 x3, .d .bool x4, .d (.list .str) x5, .fn 125 [.ptr 0 3 0], .d I64 x6, .d I64 x7, .agg (explode TyRoleSet x8), .agg [.fn 120 [.ptr 0 1 0]], .agg (explode TyApart x9)]
noncomputable abbrev L_impl_GoodRoleSet_0_2_1002_1005_23003 (n : Nat) (x1 : Bool) (x2 : (List (List Int))) (x3 : Int) (x4 : Int) (x5 : DRoleSet) : Option Bool := lam Try.prog A_impl_GoodRoleSet In_impl_GoodRoleSet (conOf cs_impl_GoodRoleSet) Try.f71 (Try.f71.body.getD .skip) (packT [.bool]) n [0, 2, 1002, 1005, 23003] [.d .bool x1, .d (.list .str) x2, .fn 125 [.ptr 0 3 0], .d I64 x3, .d I64 x4, .agg [.fn 120 [.ptr 0 1 0]], .agg (explode TyRoleSet x5)]
theorem F_impl_GoodRoleSet_eq (n : Nat) (a0 : DRoleSet) : F_impl_GoodRoleSet n a0 =
    bif decide ((30 : Int) < (a0.1.length : Int)) then
      some false
    else
      bif decide ((10 : Int) < (a0.2.1.length : Int)) then
        some false
      else
        L_impl_GoodRoleSet_0_6 n a0.1 (a0.1.length : Int) 0 a0 := by kernel_rfl
theorem L_impl_GoodRoleSet_0_6_eq (n : Nat) (x1 : (List DRole)) (x2 : Int) (x3 : Int) (x4 : DRoleSet) : L_impl_GoodRoleSet_0_6 (n + 1) x1 x2 x3 x4 =
    bif decide (x3 < x2) then
      bif inB x3 x1.length then
        Option.bind (P_impl_GoodName ((rd x1 x3 (Ty.dflt TyRole)).1)) fun (y1 : Bool) =>
        bif !(y1) then
          some false
        else
          bif decide ((0 : Int) < x3) then
            bif inB (IntKind.wrap .i64 (x3 - 1)) x4.1.length then
              bif !lessI ((rd x4.1 (IntKind.wrap .i64 (x3 - 1)) (Ty.dflt TyRole)).1) ((rd x1 x3 (Ty.dflt TyRole)).1) then
                some false
              else
                Option.bind (P_impl_yrising (((rd x1 x3 (Ty.dflt TyRole)).2).1)) fun (y2 : Bool) =>
                bif y2 then
                  L_impl_GoodRoleSet_0_2_1002_1005_8024 n x1 x2 x3 false true (((rd x1 x3 (Ty.dflt TyRole)).2).1) ((((rd x1 x3 (Ty.dflt TyRole)).2).1).length : Int) 0 x4 (rd x1 x3 (Ty.dflt TyRole))
                else
                  some false
            else none
          else
            Option.bind (P_impl_yrising (((rd x1 x3 (Ty.dflt TyRole)).2).1)) fun (y8 : Bool) =>
            bif y8 then
              L_impl_GoodRoleSet_0_2_1002_1005_8024 n x1 x2 x3 false true (((rd x1 x3 (Ty.dflt TyRole)).2).1) ((((rd x1 x3 (Ty.dflt TyRole)).2).1).length : Int) 0 x4 (rd x1 x3 (Ty.dflt TyRole))
            else
              some false
      else none
    else
      L_impl_GoodRoleSet_0_12 n x4.1 (x4.1.length : Int) 0 x4 := by kernel_rfl
theorem L_impl_GoodRoleSet_0_2_1002_1005_8024_eq (n : Nat) (x1 : (List DRole)) (x2 : Int) (x3 : Int) (x4 : Bool) (x5 : Bool) (x6 : (List (List Int))) (x7 : Int) (x8 : Int) (x9 : DRoleSet) (x10 : DRole) : L_impl_GoodRoleSet_0_2_1002_1005_8024 (n + 1) x1 x2 x3 x4 x5 x6 x7 x8 x9 x10 =
    bif decide (x8 < x7) then
      bif inB x8 x6.length then
        Option.bind (P_impl_RoleSet_yrole x9 (rd x6 x8 (Ty.dflt .str))) fun (y3 : (DRole × Bool)) =>
        bif !(y3.2) then
          bif x5 then
            bif x4 then
              some false
            else
              bif !(!decide ((0 : Int) ≤ x8)) then
                some false
              else
                bif decide ((20 : Int) < (x10.2.2.length : Int)) then
                  some false
                else
                  Option.bind (P_impl_yrising x10.2.2) fun (y4 : Bool) =>
                  bif !(y4) then
                    some false
                  else
                    Option.bind (P_impl_yallNames x10.2.2) fun (y5 : Bool) =>
                    bif !(y5) then
                      some false
                    else
                      L_impl_GoodRoleSet_0_6 n x1 x2 (IntKind.wrap .i64 (x3 + 1)) x9
          else
            bif x4 then
              some false
            else
              some false
        else
          L_impl_GoodRoleSet_0_2_1002_1005_8024 n x1 x2 x3 x4 x5 x6 x7 (IntKind.wrap .i64 (x8 + 1)) x9 x10
      else none
    else
      bif x5 then
        bif x4 then
          some false
        else
          bif decide ((20 : Int) < (x10.2.2.length : Int)) then
            some false
          else
            Option.bind (P_impl_yrising x10.2.2) fun (y6 : Bool) =>
            bif !(y6) then
              some false
            else
              Option.bind (P_impl_yallNames x10.2.2) fun (y7 : Bool) =>
              bif !(y7) then
                some false
              else
                L_impl_GoodRoleSet_0_6 n x1 x2 (IntKind.wrap .i64 (x3 + 1)) x9
      else
        bif x4 then
          some false
        else
          some false := by kernel_rfl
theorem L_impl_GoodRoleSet_0_12_eq (n : Nat) (x1 : (List DRole)) (x2 : Int) (x3 : Int) (x4 : DRoleSet) : L_impl_GoodRoleSet_0_12 (n + 1) x1 x2 x3 x4 =
    bif decide (x3 < x2) then
      bif inB x3 x1.length then
        Option.bind (E_impl_RoleSet_yjuniors x4 (((rd x1 x3 (Ty.dflt TyRole)).2).1)) fun (y9 : (List ((List Int) × Bool))) =>
        bif getM .str y9 ((rd x1 x3 (Ty.dflt TyRole)).1) false then
          some false
        else
          L_impl_GoodRoleSet_0_12 n x1 x2 (IntKind.wrap .i64 (x3 + 1)) x4
      else none
    else
      L_impl_GoodRoleSet_0_18 n x4.2.1 (x4.2.1.length : Int) 0 x4 := by kernel_rfl
theorem L_impl_GoodRoleSet_0_18_eq (n : Nat) (x1 : (List DApart)) (x2 : Int) (x3 : Int) (x4 : DRoleSet) : L_impl_GoodRoleSet_0_18 (n + 1) x1 x2 x3 x4 =
    bif decide (x3 < x2) then
      bif inB x3 x1.length then
        Option.bind (P_impl_yrising ((rd x1 x3 (Ty.dflt TyApart)).1)) fun (y10 : Bool) =>
        bif y10 then
          L_impl_GoodRoleSet_0_2_1002_1005_20003 n x1 x2 x3 true ((rd x1 x3 (Ty.dflt TyApart)).1) (((rd x1 x3 (Ty.dflt TyApart)).1).length : Int) 0 x4 (rd x1 x3 (Ty.dflt TyApart))
        else
          some false
      else none
    else
      Option.bind (P_impl_yrising x4.2.2) fun (y12 : Bool) =>
      bif y12 then
        L_impl_GoodRoleSet_0_2_1002_1005_23003 n true x4.2.2 (x4.2.2.length : Int) 0 x4
      else
        some false := by kernel_rfl
theorem L_impl_GoodRoleSet_0_2_1002_1005_20003_eq (n : Nat) (x1 : (List DApart)) (x2 : Int) (x3 : Int) (x4 : Bool) (x5 : (List (List Int))) (x6 : Int) (x7 : Int) (x8 : DRoleSet) (x9 : DApart) : L_impl_GoodRoleSet_0_2_1002_1005_20003 (n + 1) x1 x2 x3 x4 x5 x6 x7 x8 x9 =
    bif decide (x7 < x6) then
      bif inB x7 x5.length then
        Option.bind (P_impl_RoleSet_yrole x8 (rd x5 x7 (Ty.dflt .str))) fun (y11 : (DRole × Bool)) =>
        bif !(y11.2) then
          bif x4 then
            bif !(!decide ((0 : Int) ≤ x7)) then
              some false
            else
              bif decide ((x9.1.length : Int) < 2) then
                some false
              else
                bif decide (x9.2.1 < 1) then
                  some false
                else
                  bif decide (IntKind.wrap .i64 ((x9.1.length : Int) - 1) < x9.2.1) then
                    some false
                  else
                    L_impl_GoodRoleSet_0_18 n x1 x2 (IntKind.wrap .i64 (x3 + 1)) x8
          else
            some false
        else
          L_impl_GoodRoleSet_0_2_1002_1005_20003 n x1 x2 x3 x4 x5 x6 (IntKind.wrap .i64 (x7 + 1)) x8 x9
      else none
    else
      bif x4 then
        bif decide ((x9.1.length : Int) < 2) then
          some false
        else
          bif decide (x9.2.1 < 1) then
            some false
          else
            bif decide (IntKind.wrap .i64 ((x9.1.length : Int) - 1) < x9.2.1) then
              some false
            else
              L_impl_GoodRoleSet_0_18 n x1 x2 (IntKind.wrap .i64 (x3 + 1)) x8
      else
        some false := by kernel_rfl
theorem L_impl_GoodRoleSet_0_2_1002_1005_23003_eq (n : Nat) (x1 : Bool) (x2 : (List (List Int))) (x3 : Int) (x4 : Int) (x5 : DRoleSet) : L_impl_GoodRoleSet_0_2_1002_1005_23003 (n + 1) x1 x2 x3 x4 x5 =
    bif decide (x4 < x3) then
      bif inB x4 x2.length then
        Option.bind (P_impl_RoleSet_yrole x5 (rd x2 x4 (Ty.dflt .str))) fun (y13 : (DRole × Bool)) =>
        bif !(y13.2) then
          bif x1 then
            some (!decide ((0 : Int) ≤ x4))
          else
            some false
        else
          L_impl_GoodRoleSet_0_2_1002_1005_23003 n x1 x2 x3 (IntKind.wrap .i64 (x4 + 1)) x5
      else none
    else
      bif x1 then
        some true
      else
        some false := by kernel_rfl
theorem S_impl_GoodRoleSet_0_2_1002_1005_8024 {K0 : Option Bool} {x1 : (List DRole)} {x2 : Int} {x3 : Int} {x6 : (List (List Int))} {x9 : DRoleSet} {x10 : DRole} (hl : x6.length ≤ maxLen) (hK0 : ∀  (r : Bool), K0 = some r → Ev (fun n => L_impl_GoodRoleSet_0_6 n x1 x2 (IntKind.wrap .i64 (x3 + 1)) x9) r) : ∀ (rest : List (List Int)) (k : Nat) (r : Bool), rest = x6.drop k → P_impl_GoodRoleSet_0_2_1002_1005_8024 K0 x9 x10 rest k = some r → Ev (fun n => L_impl_GoodRoleSet_0_2_1002_1005_8024 n x1 x2 x3 false true x6 (x6.length : Int) (k : Int) x9 x10) r := by
  intro rest
  induction rest with
  | nil =>
    intro k r hr h
    have hk := drop_nil hr
    rw [P_impl_GoodRoleSet_0_2_1002_1005_8024] at h
    refine Ev.step ?_ (fun n => L_impl_GoodRoleSet_0_2_1002_1005_8024_eq n x1 x2 x3 false true x6 (x6.length : Int) (k : Int) x9 x10)
    rw [show decide ((k : Int) < (x6.length : Int)) = false from decide_eq_false (by omega)]
    exact Ev.neg rfl (Ev.pos rfl (Ev.ofBif h (fun h => (Ev.ofSome h)) (fun h => (Ev.ofBif h (fun h => (Ev.ofSome h)) (fun h => (Ev.ofBind h fun y6 h => (Ev.ofBif h (fun h => (Ev.ofSome h)) (fun h => (Ev.ofBind h fun y7 h => (Ev.ofBif h (fun h => (Ev.ofSome h)) (fun h => (hK0  _ h))))))))))))
  | cons e rest ih =>
    intro k r hr h
    obtain ⟨hk, hx, hr2⟩ := drop_cons (d := (Ty.dflt .str)) hr
    have hw := wrap_succ hl hk
    have ih2 : ∀ (r : Bool), P_impl_GoodRoleSet_0_2_1002_1005_8024 K0 x9 x10 rest (k + 1) = some r → Ev (fun n => L_impl_GoodRoleSet_0_2_1002_1005_8024 n x1 x2 x3 false true x6 (x6.length : Int) (IntKind.wrap .i64 ((k : Int) + 1)) x9 x10) r := by
      intro r h; rw [hw]; exact ih (k + 1) r hr2 h
    rw [P_impl_GoodRoleSet_0_2_1002_1005_8024] at h
    refine Ev.step ?_ (fun n => L_impl_GoodRoleSet_0_2_1002_1005_8024_eq n x1 x2 x3 false true x6 (x6.length : Int) (k : Int) x9 x10)
    rw [show decide ((k : Int) < (x6.length : Int)) = true from decide_eq_true (by omega), inB_nat2 hk, hx]
    exact Ev.pos rfl (Ev.pos rfl (Ev.ofBind h fun y3 h => (Ev.ofBif h (fun h => (Ev.pos rfl (Ev.ofBif h (fun h => (Ev.ofSome h)) (fun h => (Ev.ofBif h (fun h => (Ev.ofSome h)) (fun h => (Ev.ofBif h (fun h => (Ev.ofSome h)) (fun h => (Ev.ofBind h fun y4 h => (Ev.ofBif h (fun h => (Ev.ofSome h)) (fun h => (Ev.ofBind h fun y5 h => (Ev.ofBif h (fun h => (Ev.ofSome h)) (fun h => (hK0  _ h))))))))))))))) (fun h => (ih2  _ h)))))
theorem S_impl_GoodRoleSet_0_2_1002_1005_20003 {K3 : Option Bool} {x1 : (List DApart)} {x2 : Int} {x3 : Int} {x5 : (List (List Int))} {x8 : DRoleSet} {x9 : DApart} (hl : x5.length ≤ maxLen) (hK3 : ∀  (r : Bool), K3 = some r → Ev (fun n => L_impl_GoodRoleSet_0_18 n x1 x2 (IntKind.wrap .i64 (x3 + 1)) x8) r) : ∀ (rest : List (List Int)) (k : Nat) (r : Bool), rest = x5.drop k → P_impl_GoodRoleSet_0_2_1002_1005_20003 K3 x8 x9 rest k = some r → Ev (fun n => L_impl_GoodRoleSet_0_2_1002_1005_20003 n x1 x2 x3 true x5 (x5.length : Int) (k : Int) x8 x9) r := by
  intro rest
  induction rest with
  | nil =>
    intro k r hr h
    have hk := drop_nil hr
    rw [P_impl_GoodRoleSet_0_2_1002_1005_20003] at h
    refine Ev.step ?_ (fun n => L_impl_GoodRoleSet_0_2_1002_1005_20003_eq n x1 x2 x3 true x5 (x5.length : Int) (k : Int) x8 x9)
    rw [show decide ((k : Int) < (x5.length : Int)) = false from decide_eq_false (by omega)]
    exact Ev.neg rfl (Ev.pos rfl (Ev.ofBif h (fun h => (Ev.ofSome h)) (fun h => (Ev.ofBif h (fun h => (Ev.ofSome h)) (fun h => (Ev.ofBif h (fun h => (Ev.ofSome h)) (fun h => (hK3  _ h))))))))
  | cons e rest ih =>
    intro k r hr h
    obtain ⟨hk, hx, hr2⟩ := drop_cons (d := (Ty.dflt .str)) hr
    have hw := wrap_succ hl hk
    have ih2 : ∀ (r : Bool), P_impl_GoodRoleSet_0_2_1002_1005_20003 K3 x8 x9 rest (k + 1) = some r → Ev (fun n => L_impl_GoodRoleSet_0_2_1002_1005_20003 n x1 x2 x3 true x5 (x5.length : Int) (IntKind.wrap .i64 ((k : Int) + 1)) x8 x9) r := by
      intro r h; rw [hw]; exact ih (k + 1) r hr2 h
    rw [P_impl_GoodRoleSet_0_2_1002_1005_20003] at h
    refine Ev.step ?_ (fun n => L_impl_GoodRoleSet_0_2_1002_1005_20003_eq n x1 x2 x3 true x5 (x5.length : Int) (k : Int) x8 x9)
    rw [show decide ((k : Int) < (x5.length : Int)) = true from decide_eq_true (by omega), inB_nat2 hk, hx]
    exact Ev.pos rfl (Ev.pos rfl (Ev.ofBind h fun y11 h => (Ev.ofBif h (fun h => (Ev.pos rfl (Ev.ofBif h (fun h => (Ev.ofSome h)) (fun h => (Ev.ofBif h (fun h => (Ev.ofSome h)) (fun h => (Ev.ofBif h (fun h => (Ev.ofSome h)) (fun h => (Ev.ofBif h (fun h => (Ev.ofSome h)) (fun h => (hK3  _ h))))))))))) (fun h => (ih2  _ h)))))
theorem S_impl_GoodRoleSet_0_2_1002_1005_23003 {x2 : (List (List Int))} {x5 : DRoleSet} (hl : x2.length ≤ maxLen) : ∀ (rest : List (List Int)) (k : Nat) (r : Bool), rest = x2.drop k → P_impl_GoodRoleSet_0_2_1002_1005_23003 x5 rest k = some r → Ev (fun n => L_impl_GoodRoleSet_0_2_1002_1005_23003 n true x2 (x2.length : Int) (k : Int) x5) r := by
  intro rest
  induction rest with
  | nil =>
    intro k r hr h
    have hk := drop_nil hr
    rw [P_impl_GoodRoleSet_0_2_1002_1005_23003] at h
    refine Ev.step ?_ (fun n => L_impl_GoodRoleSet_0_2_1002_1005_23003_eq n true x2 (x2.length : Int) (k : Int) x5)
    rw [show decide ((k : Int) < (x2.length : Int)) = false from decide_eq_false (by omega)]
    exact Ev.neg rfl (Ev.pos rfl (Ev.ofSome h))
  | cons e rest ih =>
    intro k r hr h
    obtain ⟨hk, hx, hr2⟩ := drop_cons (d := (Ty.dflt .str)) hr
    have hw := wrap_succ hl hk
    have ih2 : ∀ (r : Bool), P_impl_GoodRoleSet_0_2_1002_1005_23003 x5 rest (k + 1) = some r → Ev (fun n => L_impl_GoodRoleSet_0_2_1002_1005_23003 n true x2 (x2.length : Int) (IntKind.wrap .i64 ((k : Int) + 1)) x5) r := by
      intro r h; rw [hw]; exact ih (k + 1) r hr2 h
    rw [P_impl_GoodRoleSet_0_2_1002_1005_23003] at h
    refine Ev.step ?_ (fun n => L_impl_GoodRoleSet_0_2_1002_1005_23003_eq n true x2 (x2.length : Int) (k : Int) x5)
    rw [show decide ((k : Int) < (x2.length : Int)) = true from decide_eq_true (by omega), inB_nat2 hk, hx]
    exact Ev.pos rfl (Ev.pos rfl (Ev.ofBind h fun y13 h => (Ev.ofBif h (fun h => (Ev.pos rfl (Ev.ofSome h))) (fun h => (ih2  _ h)))))
theorem S_impl_GoodRoleSet_0_18 {x1 : (List DApart)} {x4 : DRoleSet} (hl : x1.length ≤ maxLen) : ∀ (rest : List DApart) (k : Nat) (r : Bool), rest = x1.drop k → P_impl_GoodRoleSet_0_18 x4 rest = some r → Ev (fun n => L_impl_GoodRoleSet_0_18 n x1 (x1.length : Int) (k : Int) x4) r := by
  intro rest
  induction rest with
  | nil =>
    intro k r hr h
    have hk := drop_nil hr
    rw [P_impl_GoodRoleSet_0_18] at h
    refine Ev.step ?_ (fun n => L_impl_GoodRoleSet_0_18_eq n x1 (x1.length : Int) (k : Int) x4)
    rw [show decide ((k : Int) < (x1.length : Int)) = false from decide_eq_false (by omega)]
    exact Ev.neg rfl (Ev.ofBind h fun y12 h => (Ev.ofBif h (fun h => (Ev.ofLen h fun hl h => S_impl_GoodRoleSet_0_2_1002_1005_23003 hl _ (0 : Nat) _ rfl h)) (fun h => (Ev.ofSome h))))
  | cons e rest ih =>
    intro k r hr h
    obtain ⟨hk, hx, hr2⟩ := drop_cons (d := (Ty.dflt TyApart)) hr
    have hw := wrap_succ hl hk
    have ih2 : ∀ (r : Bool), P_impl_GoodRoleSet_0_18 x4 rest = some r → Ev (fun n => L_impl_GoodRoleSet_0_18 n x1 (x1.length : Int) (IntKind.wrap .i64 ((k : Int) + 1)) x4) r := by
      intro r h; rw [hw]; exact ih (k + 1) r hr2 h
    rw [P_impl_GoodRoleSet_0_18] at h
    refine Ev.step ?_ (fun n => L_impl_GoodRoleSet_0_18_eq n x1 (x1.length : Int) (k : Int) x4)
    rw [show decide ((k : Int) < (x1.length : Int)) = true from decide_eq_true (by omega), inB_nat2 hk, hx]
    exact Ev.pos rfl (Ev.pos rfl (Ev.ofBind h fun y10 h => (Ev.ofBif h (fun h => (Ev.ofLen h fun hl h => S_impl_GoodRoleSet_0_2_1002_1005_20003 hl ih2 _ (0 : Nat) _ rfl h)) (fun h => (Ev.ofSome h)))))
theorem S_impl_GoodRoleSet_0_12 {x1 : (List DRole)} {x4 : DRoleSet} (hl : x1.length ≤ maxLen) : ∀ (rest : List DRole) (k : Nat) (r : Bool), rest = x1.drop k → P_impl_GoodRoleSet_0_12 x4 rest = some r → Ev (fun n => L_impl_GoodRoleSet_0_12 n x1 (x1.length : Int) (k : Int) x4) r := by
  intro rest
  induction rest with
  | nil =>
    intro k r hr h
    have hk := drop_nil hr
    rw [P_impl_GoodRoleSet_0_12] at h
    refine Ev.step ?_ (fun n => L_impl_GoodRoleSet_0_12_eq n x1 (x1.length : Int) (k : Int) x4)
    rw [show decide ((k : Int) < (x1.length : Int)) = false from decide_eq_false (by omega)]
    exact Ev.neg rfl (Ev.ofLen h fun hl h => S_impl_GoodRoleSet_0_18 hl _ (0 : Nat) _ rfl h)
  | cons e rest ih =>
    intro k r hr h
    obtain ⟨hk, hx, hr2⟩ := drop_cons (d := (Ty.dflt TyRole)) hr
    have hw := wrap_succ hl hk
    have ih2 : ∀ (r : Bool), P_impl_GoodRoleSet_0_12 x4 rest = some r → Ev (fun n => L_impl_GoodRoleSet_0_12 n x1 (x1.length : Int) (IntKind.wrap .i64 ((k : Int) + 1)) x4) r := by
      intro r h; rw [hw]; exact ih (k + 1) r hr2 h
    rw [P_impl_GoodRoleSet_0_12] at h
    refine Ev.step ?_ (fun n => L_impl_GoodRoleSet_0_12_eq n x1 (x1.length : Int) (k : Int) x4)
    rw [show decide ((k : Int) < (x1.length : Int)) = true from decide_eq_true (by omega), inB_nat2 hk, hx]
    exact Ev.pos rfl (Ev.pos rfl (Ev.ofBind h fun y9 h => (Ev.ofBif h (fun h => (Ev.ofSome h)) (fun h => (ih2  _ h)))))
theorem S_impl_GoodRoleSet_0_6 {x1 : (List DRole)} {x4 : DRoleSet} (hl : x1.length ≤ maxLen) : ∀ (rest : List DRole) (k : Nat) (r : Bool), rest = x1.drop k → P_impl_GoodRoleSet_0_6 x4 rest k = some r → Ev (fun n => L_impl_GoodRoleSet_0_6 n x1 (x1.length : Int) (k : Int) x4) r := by
  intro rest
  induction rest with
  | nil =>
    intro k r hr h
    have hk := drop_nil hr
    rw [P_impl_GoodRoleSet_0_6] at h
    refine Ev.step ?_ (fun n => L_impl_GoodRoleSet_0_6_eq n x1 (x1.length : Int) (k : Int) x4)
    rw [show decide ((k : Int) < (x1.length : Int)) = false from decide_eq_false (by omega)]
    exact Ev.neg rfl (Ev.ofLen h fun hl h => S_impl_GoodRoleSet_0_12 hl _ (0 : Nat) _ rfl h)
  | cons e rest ih =>
    intro k r hr h
    obtain ⟨hk, hx, hr2⟩ := drop_cons (d := (Ty.dflt TyRole)) hr
    have hw := wrap_succ hl hk
    have ih2 : ∀ (r : Bool), P_impl_GoodRoleSet_0_6 x4 rest (k + 1) = some r → Ev (fun n => L_impl_GoodRoleSet_0_6 n x1 (x1.length : Int) (IntKind.wrap .i64 ((k : Int) + 1)) x4) r := by
      intro r h; rw [hw]; exact ih (k + 1) r hr2 h
    rw [P_impl_GoodRoleSet_0_6] at h
    refine Ev.step ?_ (fun n => L_impl_GoodRoleSet_0_6_eq n x1 (x1.length : Int) (k : Int) x4)
    rw [show decide ((k : Int) < (x1.length : Int)) = true from decide_eq_true (by omega), inB_nat2 hk, hx]
    exact Ev.pos rfl (Ev.pos rfl (Ev.ofBind h fun y1 h => (Ev.ofBif h (fun h => (Ev.ofSome h)) (fun h => (Ev.ofBif h (fun h => (Ev.ofBif h (fun h => (Ev.ofBif h (fun h => (Ev.ofSome h)) (fun h => (Ev.ofBind h fun y2 h => (Ev.ofBif h (fun h => (Ev.ofLen h fun hl h => S_impl_GoodRoleSet_0_2_1002_1005_8024 hl ih2 _ (0 : Nat) _ rfl h)) (fun h => (Ev.ofSome h))))))) (fun h => (Ev.ofNone h)))) (fun h => (Ev.ofBind h fun y8 h => (Ev.ofBif h (fun h => (Ev.ofLen h fun hl h => S_impl_GoodRoleSet_0_2_1002_1005_8024 hl ih2 _ (0 : Nat) _ rfl h)) (fun h => (Ev.ofSome h))))))))))
theorem S_impl_GoodRoleSet (a0 : DRoleSet) {r : Bool} (h : P_impl_GoodRoleSet a0 = some r) : Ev (fun n => F_impl_GoodRoleSet n a0) r := by
  rw [P_impl_GoodRoleSet] at h
  refine Ev.of_eq ?_ (fun n => F_impl_GoodRoleSet_eq n a0)
  exact (Ev.ofBif h (fun h => (Ev.ofSome h)) (fun h => (Ev.ofBif h (fun h => (Ev.ofSome h)) (fun h => (Ev.ofLen h fun hl h => S_impl_GoodRoleSet_0_6 hl _ (0 : Nat) _ rfl h)))))
theorem hcs_impl_GoodRoleSet : ∀ x ∈ cs_impl_GoodRoleSet, CtrOk Try.prog x := (conOf_cons ok_impl_GoodName (conOf_cons ok_impl_yrising (conOf_cons ok_impl_RoleSet_yrole (conOf_cons ok_impl_yallNames (conOf_cons ok_impl_RoleSet_yjuniors conOf_nil)))))
theorem ok_impl_GoodRoleSet : CtrOk Try.prog c_impl_GoodRoleSet := by
  refine ctr_of_run (c := c_impl_GoodRoleSet) (by kernel_rfl) (by kernel_rfl : Try.prog.funcs[71]? = some Try.f71) (code := Try.f71.body.getD .skip) (by kernel_rfl) (by kernel_rfl) (by kernel_rfl) (A := A_impl_GoodRoleSet) (I := In_impl_GoodRoleSet) hcs_impl_GoodRoleSet ?_
  rintro ⟨a0, u⟩ y hy
  exact (S_impl_GoodRoleSet a0 hy).get

/-! ## impl.ygoodRoleState (58) -/
noncomputable def P_impl_ygoodRoleState_0_2_1002_7009 : List DRoleGrant → Nat → Option Bool
  | [], k =>
      some true
  | e :: rest, k =>
      bif decide ((((((e).2).2).2).2).1 < 0) then
        some (!decide ((0 : Int) ≤ (k : Int)))
      else
        bif decide ((2 : Int) < (((((e).2).2).2).2).1) then
          some (!decide ((0 : Int) ≤ (k : Int)))
        else
          P_impl_ygoodRoleState_0_2_1002_7009 rest (k + 1)
noncomputable def P_impl_ygoodRoleState_0_3 (x5 : DRoleSet) (x6 : DRoleState) : List DRoleSession → Int → Option Bool
  | [], x1 =>
      Option.bind (P_impl_GoodRoleSet x5) fun (y1 : Bool) =>
      bif y1 then
        bif decide (x1 ≤ 300) then
          lenOk x6.2.1 (P_impl_ygoodRoleState_0_2_1002_7009 x6.2.1 0)
        else
          some false
      else
        some false
  | e :: rest, x1 =>
      P_impl_ygoodRoleState_0_3 x5 x6 rest (IntKind.wrap .i64 (x1 + (IntKind.wrap .i64 ((((((e).2).2).1).length : Int) + ((((((e).2).2).2).1).length : Int)))))
noncomputable def P_impl_ygoodRoleState (a0 : DRoleSet) (a1 : DRoleState) : Option Bool :=
  lenOk a1.2.2.1 (P_impl_ygoodRoleState_0_3 a0 a1 a1.2.2.1 (IntKind.wrap .i64 ((a1.2.1.length : Int) + (a1.2.2.1.length : Int))))
noncomputable def c_impl_ygoodRoleState : Ctr := ⟨58, [TyRoleSet, TyRoleState], [.bool], fun x => P_impl_ygoodRoleState x.1 x.2.1⟩
def A_impl_ygoodRoleState : List (List Nat × Ann) := [([0, 3], [.keep 0 2, .keep 0 3, .keep 0 5, .keep 0 16, .keep 0 17, .keep 0 18, .boxd 0 2 TyRoleSet, .boxd 0 3 TyRoleState]), ([0, 2, 1002, 7009], [.keep 0 38, .keep 2 0, .keep 2 1, .keep 2 7, .keep 2 8])]
def In_impl_ygoodRoleState : List (List Nat × Nat) := [([7009], 109), ([1002, 7009], 155), ([4005, 1002, 7009], 110)]
noncomputable def cs_impl_ygoodRoleState : List Ctr := [c_impl_GoodRoleSet]
noncomputable def F_impl_ygoodRoleState (n : Nat) (a0 : DRoleSet) (a1 : DRoleState) : Option Bool := run Try.prog A_impl_ygoodRoleState In_impl_ygoodRoleState (conOf cs_impl_ygoodRoleState) Try.f58 (Try.f58.body.getD .skip) (packT [.bool]) n (argsV [TyRoleSet, TyRoleState] (a0, a1, ()))
noncomputable abbrev L_impl_ygoodRoleState_0_3 (n : Nat) (x1 : Int) (x2 : (List DRoleSession)) (x3 : Int) (x4 : Int) (x5 : DRoleSet) (x6 : DRoleState) : Option Bool := lam Try.prog A_impl_ygoodRoleState In_impl_ygoodRoleState (conOf cs_impl_ygoodRoleState) Try.f58 (Try.f58.body.getD .skip) (packT [.bool]) n [0, 3] [.ptr 0 2 0, .ptr 0 3 0, .d I64 x1, .d (.list TyRoleSession) x2, .d I64 x3, .d I64 x4, .agg (explode TyRoleSet x5), .agg (explode TyRoleState x6)]
noncomputable abbrev L_impl_ygoodRoleState_0_2_1002_7009 (n : Nat) (x1 : Bool) (x2 : (List DRoleGrant)) (x3 : Int) (x4 : Int) : Option Bool := lam Try.prog A_impl_ygoodRoleState In_impl_ygoodRoleState (conOf cs_impl_ygoodRoleState) Try.f58 (Try.f58.body.getD .skip) (packT [.bool]) n [0, 2, 1002, 7009] [.d .bool x1, .d (.list TyRoleGrant) x2, .fn 110 [], .d I64 x3, .d I64 x4]
theorem F_impl_ygoodRoleState_eq (n : Nat) (a0 : DRoleSet) (a1 : DRoleState) : F_impl_ygoodRoleState n a0 a1 =
    L_impl_ygoodRoleState_0_3 n (IntKind.wrap .i64 ((a1.2.1.length : Int) + (a1.2.2.1.length : Int))) a1.2.2.1 (a1.2.2.1.length : Int) 0 a0 a1 := by kernel_rfl
theorem L_impl_ygoodRoleState_0_3_eq (n : Nat) (x1 : Int) (x2 : (List DRoleSession)) (x3 : Int) (x4 : Int) (x5 : DRoleSet) (x6 : DRoleState) : L_impl_ygoodRoleState_0_3 (n + 1) x1 x2 x3 x4 x5 x6 =
    bif decide (x4 < x3) then
      bif inB x4 x2.length then
        L_impl_ygoodRoleState_0_3 n (IntKind.wrap .i64 (x1 + (IntKind.wrap .i64 ((((((rd x2 x4 (Ty.dflt TyRoleSession)).2).2).1).length : Int) + ((((((rd x2 x4 (Ty.dflt TyRoleSession)).2).2).2).1).length : Int))))) x2 x3 (IntKind.wrap .i64 (x4 + 1)) x5 x6
      else none
    else
      Option.bind (P_impl_GoodRoleSet x5) fun (y1 : Bool) =>
      bif y1 then
        bif decide (x1 ≤ 300) then
          L_impl_ygoodRoleState_0_2_1002_7009 n true x6.2.1 (x6.2.1.length : Int) 0
        else
          some false
      else
        some false := by kernel_rfl
theorem L_impl_ygoodRoleState_0_2_1002_7009_eq (n : Nat) (x1 : Bool) (x2 : (List DRoleGrant)) (x3 : Int) (x4 : Int) : L_impl_ygoodRoleState_0_2_1002_7009 (n + 1) x1 x2 x3 x4 =
    bif decide (x4 < x3) then
      bif inB x4 x2.length then
        bif decide ((((((rd x2 x4 (Ty.dflt TyRoleGrant)).2).2).2).2).1 < 0) then
          bif x1 then
            some (!decide ((0 : Int) ≤ x4))
          else
            some false
        else
          bif decide ((2 : Int) < (((((rd x2 x4 (Ty.dflt TyRoleGrant)).2).2).2).2).1) then
            bif x1 then
              some (!decide ((0 : Int) ≤ x4))
            else
              some false
          else
            L_impl_ygoodRoleState_0_2_1002_7009 n x1 x2 x3 (IntKind.wrap .i64 (x4 + 1))
      else none
    else
      bif x1 then
        some true
      else
        some false := by kernel_rfl
theorem S_impl_ygoodRoleState_0_2_1002_7009 {x2 : (List DRoleGrant)} (hl : x2.length ≤ maxLen) : ∀ (rest : List DRoleGrant) (k : Nat) (r : Bool), rest = x2.drop k → P_impl_ygoodRoleState_0_2_1002_7009 rest k = some r → Ev (fun n => L_impl_ygoodRoleState_0_2_1002_7009 n true x2 (x2.length : Int) (k : Int)) r := by
  intro rest
  induction rest with
  | nil =>
    intro k r hr h
    have hk := drop_nil hr
    rw [P_impl_ygoodRoleState_0_2_1002_7009] at h
    refine Ev.step ?_ (fun n => L_impl_ygoodRoleState_0_2_1002_7009_eq n true x2 (x2.length : Int) (k : Int))
    rw [show decide ((k : Int) < (x2.length : Int)) = false from decide_eq_false (by omega)]
    exact Ev.neg rfl (Ev.pos rfl (Ev.ofSome h))
  | cons e rest ih =>
    intro k r hr h
    obtain ⟨hk, hx, hr2⟩ := drop_cons (d := (Ty.dflt TyRoleGrant)) hr
    have hw := wrap_succ hl hk
    have ih2 : ∀ (r : Bool), P_impl_ygoodRoleState_0_2_1002_7009 rest (k + 1) = some r → Ev (fun n => L_impl_ygoodRoleState_0_2_1002_7009 n true x2 (x2.length : Int) (IntKind.wrap .i64 ((k : Int) + 1))) r := by
      intro r h; rw [hw]; exact ih (k + 1) r hr2 h
    rw [P_impl_ygoodRoleState_0_2_1002_7009] at h
    refine Ev.step ?_ (fun n => L_impl_ygoodRoleState_0_2_1002_7009_eq n true x2 (x2.length : Int) (k : Int))
    rw [show decide ((k : Int) < (x2.length : Int)) = true from decide_eq_true (by omega), inB_nat2 hk, hx]
    exact Ev.pos rfl (Ev.pos rfl (Ev.ofBif h (fun h => (Ev.pos rfl (Ev.ofSome h))) (fun h => (Ev.ofBif h (fun h => (Ev.pos rfl (Ev.ofSome h))) (fun h => (ih2  _ h))))))
theorem S_impl_ygoodRoleState_0_3 {x2 : (List DRoleSession)} {x5 : DRoleSet} {x6 : DRoleState} (hl : x2.length ≤ maxLen) : ∀ (rest : List DRoleSession) (k : Nat) (x1 : Int) (r : Bool), rest = x2.drop k → P_impl_ygoodRoleState_0_3 x5 x6 rest x1 = some r → Ev (fun n => L_impl_ygoodRoleState_0_3 n x1 x2 (x2.length : Int) (k : Int) x5 x6) r := by
  intro rest
  induction rest with
  | nil =>
    intro k x1 r hr h
    have hk := drop_nil hr
    rw [P_impl_ygoodRoleState_0_3] at h
    refine Ev.step ?_ (fun n => L_impl_ygoodRoleState_0_3_eq n x1 x2 (x2.length : Int) (k : Int) x5 x6)
    rw [show decide ((k : Int) < (x2.length : Int)) = false from decide_eq_false (by omega)]
    exact Ev.neg rfl (Ev.ofBind h fun y1 h => (Ev.ofBif h (fun h => (Ev.ofBif h (fun h => (Ev.ofLen h fun hl h => S_impl_ygoodRoleState_0_2_1002_7009 hl _ (0 : Nat) _ rfl h)) (fun h => (Ev.ofSome h)))) (fun h => (Ev.ofSome h))))
  | cons e rest ih =>
    intro k x1 r hr h
    obtain ⟨hk, hx, hr2⟩ := drop_cons (d := (Ty.dflt TyRoleSession)) hr
    have hw := wrap_succ hl hk
    have ih2 : ∀ (z1 : Int) (r : Bool), P_impl_ygoodRoleState_0_3 x5 x6 rest z1 = some r → Ev (fun n => L_impl_ygoodRoleState_0_3 n z1 x2 (x2.length : Int) (IntKind.wrap .i64 ((k : Int) + 1)) x5 x6) r := by
      intro z1 r h; rw [hw]; exact ih (k + 1) z1 r hr2 h
    rw [P_impl_ygoodRoleState_0_3] at h
    refine Ev.step ?_ (fun n => L_impl_ygoodRoleState_0_3_eq n x1 x2 (x2.length : Int) (k : Int) x5 x6)
    rw [show decide ((k : Int) < (x2.length : Int)) = true from decide_eq_true (by omega), inB_nat2 hk, hx]
    exact Ev.pos rfl (Ev.pos rfl (ih2 _ _ h))
theorem S_impl_ygoodRoleState (a0 : DRoleSet) (a1 : DRoleState) {r : Bool} (h : P_impl_ygoodRoleState a0 a1 = some r) : Ev (fun n => F_impl_ygoodRoleState n a0 a1) r := by
  rw [P_impl_ygoodRoleState] at h
  refine Ev.of_eq ?_ (fun n => F_impl_ygoodRoleState_eq n a0 a1)
  exact (Ev.ofLen h fun hl h => S_impl_ygoodRoleState_0_3 hl _ (0 : Nat) _ _ rfl h)
theorem hcs_impl_ygoodRoleState : ∀ x ∈ cs_impl_ygoodRoleState, CtrOk Try.prog x := (conOf_cons ok_impl_GoodRoleSet conOf_nil)
theorem ok_impl_ygoodRoleState : CtrOk Try.prog c_impl_ygoodRoleState := by
  refine ctr_of_run (c := c_impl_ygoodRoleState) (by kernel_rfl) (by kernel_rfl : Try.prog.funcs[58]? = some Try.f58) (code := Try.f58.body.getD .skip) (by kernel_rfl) (by kernel_rfl) (by kernel_rfl) (A := A_impl_ygoodRoleState) (I := In_impl_ygoodRoleState) hcs_impl_ygoodRoleState ?_
  rintro ⟨a0, a1, u⟩ y hy
  exact (S_impl_ygoodRoleState a0 a1 hy).get

/-! ## impl.ycounts (113) -/
noncomputable def P_impl_ycounts_0_2_1002_3006 (Rc : (List DRoleGrant) → DRoleGrant → Int → Option Bool) (x2 : (List DRoleGrant)) (x5 : DRoleGrant) (x7 : Int) : List DRoleGrant → Nat → Option Bool
  | [], k =>
      bif false then
        some true
      else
        some false
  | e :: rest, k =>
      bif decide ((e).1 = x5.2.2.1) then
        bif decide (((e).2).1 = x5.2.1) then
          bif decide ((((((e).2).2).2).2).1 < x5.2.2.2.2.1) then
            Option.bind (Rc x2 (e) x7) fun (y1 : Bool) =>
            bif y1 then
              bif false then
                some true
              else
                some (decide ((0 : Int) ≤ (k : Int)))
            else
              P_impl_ycounts_0_2_1002_3006 Rc x2 x5 x7 rest (k + 1)
          else
            P_impl_ycounts_0_2_1002_3006 Rc x2 x5 x7 rest (k + 1)
        else
          P_impl_ycounts_0_2_1002_3006 Rc x2 x5 x7 rest (k + 1)
      else
        P_impl_ycounts_0_2_1002_3006 Rc x2 x5 x7 rest (k + 1)
noncomputable def P_impl_ycounts (Rc : (List DRoleGrant) → DRoleGrant → Int → Option Bool) (a0 : (List DRoleGrant)) (a1 : DRoleGrant) (a2 : Int) : Option Bool :=
  bif decide (a1.2.2.2.1 < a2) then
    some false
  else
    bif decide (a1.2.2.1 = ([] : List Int)) then
      some true
    else
      lenOk a0 (P_impl_ycounts_0_2_1002_3006 Rc a0 a1 a2 a0 0)
noncomputable def R_impl_ycounts : Nat → (List DRoleGrant) → DRoleGrant → Int → Option Bool
  | 0 => fun _ _ _ => none
  | d + 1 => fun a0 a1 a2 => P_impl_ycounts (R_impl_ycounts d) a0 a1 a2
noncomputable def E_impl_ycounts (a0 : (List DRoleGrant)) (a1 : DRoleGrant) (a2 : Int) : Option Bool := evOpt fun d => R_impl_ycounts d a0 a1 a2
noncomputable def c_impl_ycounts : Ctr := ⟨113, [(.list TyRoleGrant), TyRoleGrant, I64], [.bool], fun x => E_impl_ycounts x.1 x.2.1 x.2.2.1⟩
def A_impl_ycounts : List (List Nat × Ann) := [([0, 2, 1002, 3006], [.keep 0 14, .keep 2 0, .keep 2 1, .keep 2 7, .keep 2 8, .boxd 0 4 TyRoleGrant, .box 0 3 1, .box 0 5 1])]
def In_impl_ycounts : List (List Nat × Nat) := [([3006], 109), ([1002, 3006], 155), ([4005, 1002, 3006], 157)]
noncomputable def cs_impl_ycounts (Rc : (List DRoleGrant) → DRoleGrant → Int → Option Bool) : List Ctr := [⟨113, [(.list TyRoleGrant), TyRoleGrant, I64], [.bool], fun x => Rc x.1 x.2.1 x.2.2.1⟩]
noncomputable def F_impl_ycounts (Rc : (List DRoleGrant) → DRoleGrant → Int → Option Bool) (n : Nat) (a0 : (List DRoleGrant)) (a1 : DRoleGrant) (a2 : Int) : Option Bool := run Try.prog A_impl_ycounts In_impl_ycounts (conOf (cs_impl_ycounts Rc)) Try.f113 (Try.f113.body.getD .skip) (packT [.bool]) n (argsV [(.list TyRoleGrant), TyRoleGrant, I64] (a0, a1, a2, ()))
noncomputable abbrev L_impl_ycounts_0_2_1002_3006 (Rc : (List DRoleGrant) → DRoleGrant → Int → Option Bool) (n : Nat) (x1 : Bool) (x2 : (List DRoleGrant)) (x3 : Int) (x4 : Int) (x5 : DRoleGrant) (x6 : (List DRoleGrant)) (x7 : Int) : Option Bool := lam Try.prog A_impl_ycounts In_impl_ycounts (conOf (cs_impl_ycounts Rc)) Try.f113 (Try.f113.body.getD .skip) (packT [.bool]) n [0, 2, 1002, 3006] [.d .bool x1, .d (.list TyRoleGrant) x2, .fn 157 [.ptr 0 4 0, .ptr 0 3 0, .ptr 0 5 0], .d I64 x3, .d I64 x4, .agg (explode TyRoleGrant x5), .agg [.d (.list TyRoleGrant) x6], .agg [.d I64 x7]]
theorem F_impl_ycounts_eq (Rc : (List DRoleGrant) → DRoleGrant → Int → Option Bool) (n : Nat) (a0 : (List DRoleGrant)) (a1 : DRoleGrant) (a2 : Int) : F_impl_ycounts Rc n a0 a1 a2 =
    bif decide (a1.2.2.2.1 < a2) then
      some false
    else
      bif decide (a1.2.2.1 = ([] : List Int)) then
        some true
      else
        L_impl_ycounts_0_2_1002_3006 Rc n false a0 (a0.length : Int) 0 a1 a0 a2 := by kernel_rfl
theorem L_impl_ycounts_0_2_1002_3006_eq (Rc : (List DRoleGrant) → DRoleGrant → Int → Option Bool) (n : Nat) (x1 : Bool) (x2 : (List DRoleGrant)) (x3 : Int) (x4 : Int) (x5 : DRoleGrant) (x6 : (List DRoleGrant)) (x7 : Int) : L_impl_ycounts_0_2_1002_3006 Rc (n + 1) x1 x2 x3 x4 x5 x6 x7 =
    bif decide (x4 < x3) then
      bif inB x4 x2.length then
        bif decide ((rd x2 x4 (Ty.dflt TyRoleGrant)).1 = x5.2.2.1) then
          bif decide (((rd x2 x4 (Ty.dflt TyRoleGrant)).2).1 = x5.2.1) then
            bif decide ((((((rd x2 x4 (Ty.dflt TyRoleGrant)).2).2).2).2).1 < x5.2.2.2.2.1) then
              Option.bind (Rc x6 (rd x2 x4 (Ty.dflt TyRoleGrant)) x7) fun (y1 : Bool) =>
              bif y1 then
                bif x1 then
                  some true
                else
                  some (decide ((0 : Int) ≤ x4))
              else
                L_impl_ycounts_0_2_1002_3006 Rc n x1 x2 x3 (IntKind.wrap .i64 (x4 + 1)) x5 x6 x7
            else
              L_impl_ycounts_0_2_1002_3006 Rc n x1 x2 x3 (IntKind.wrap .i64 (x4 + 1)) x5 x6 x7
          else
            L_impl_ycounts_0_2_1002_3006 Rc n x1 x2 x3 (IntKind.wrap .i64 (x4 + 1)) x5 x6 x7
        else
          L_impl_ycounts_0_2_1002_3006 Rc n x1 x2 x3 (IntKind.wrap .i64 (x4 + 1)) x5 x6 x7
      else none
    else
      bif x1 then
        some true
      else
        some false := by kernel_rfl
theorem S_impl_ycounts_0_2_1002_3006 {Rc : (List DRoleGrant) → DRoleGrant → Int → Option Bool} {x2 : (List DRoleGrant)} {x5 : DRoleGrant} {x7 : Int} (hl : x2.length ≤ maxLen) : ∀ (rest : List DRoleGrant) (k : Nat) (r : Bool), rest = x2.drop k → P_impl_ycounts_0_2_1002_3006 Rc x2 x5 x7 rest k = some r → Ev (fun n => L_impl_ycounts_0_2_1002_3006 Rc n false x2 (x2.length : Int) (k : Int) x5 x2 x7) r := by
  intro rest
  induction rest with
  | nil =>
    intro k r hr h
    have hk := drop_nil hr
    rw [P_impl_ycounts_0_2_1002_3006] at h
    refine Ev.step ?_ (fun n => L_impl_ycounts_0_2_1002_3006_eq Rc n false x2 (x2.length : Int) (k : Int) x5 x2 x7)
    rw [show decide ((k : Int) < (x2.length : Int)) = false from decide_eq_false (by omega)]
    exact Ev.neg rfl (Ev.ofBif h (fun h => (Ev.ofSome h)) (fun h => (Ev.ofSome h)))
  | cons e rest ih =>
    intro k r hr h
    obtain ⟨hk, hx, hr2⟩ := drop_cons (d := (Ty.dflt TyRoleGrant)) hr
    have hw := wrap_succ hl hk
    have ih2 : ∀ (r : Bool), P_impl_ycounts_0_2_1002_3006 Rc x2 x5 x7 rest (k + 1) = some r → Ev (fun n => L_impl_ycounts_0_2_1002_3006 Rc n false x2 (x2.length : Int) (IntKind.wrap .i64 ((k : Int) + 1)) x5 x2 x7) r := by
      intro r h; rw [hw]; exact ih (k + 1) r hr2 h
    rw [P_impl_ycounts_0_2_1002_3006] at h
    refine Ev.step ?_ (fun n => L_impl_ycounts_0_2_1002_3006_eq Rc n false x2 (x2.length : Int) (k : Int) x5 x2 x7)
    rw [show decide ((k : Int) < (x2.length : Int)) = true from decide_eq_true (by omega), inB_nat2 hk, hx]
    exact Ev.pos rfl (Ev.pos rfl (Ev.ofBif h (fun h => (Ev.ofBif h (fun h => (Ev.ofBif h (fun h => (Ev.ofBind h fun y1 h => (Ev.ofBif h (fun h => (Ev.ofBif h (fun h => (Ev.ofSome h)) (fun h => (Ev.ofSome h)))) (fun h => (ih2  _ h))))) (fun h => (ih2  _ h)))) (fun h => (ih2  _ h)))) (fun h => (ih2  _ h))))
theorem S_impl_ycounts {Rc : (List DRoleGrant) → DRoleGrant → Int → Option Bool} (a0 : (List DRoleGrant)) (a1 : DRoleGrant) (a2 : Int) {r : Bool} (h : P_impl_ycounts Rc a0 a1 a2 = some r) : Ev (fun n => F_impl_ycounts Rc n a0 a1 a2) r := by
  rw [P_impl_ycounts] at h
  refine Ev.of_eq ?_ (fun n => F_impl_ycounts_eq Rc n a0 a1 a2)
  exact (Ev.ofBif h (fun h => (Ev.ofSome h)) (fun h => (Ev.ofBif h (fun h => (Ev.ofSome h)) (fun h => (Ev.ofLen h fun hl h => S_impl_ycounts_0_2_1002_3006 hl _ (0 : Nat) _ rfl h)))))
theorem okR_impl_ycounts : ∀ d, CtrOk Try.prog (⟨113, [(.list TyRoleGrant), TyRoleGrant, I64], [.bool], fun x => R_impl_ycounts d x.1 x.2.1 x.2.2.1⟩ : Ctr) := by
  intro d
  induction d with
  | zero => intro xs y hy; exact (nomatch (show (none : Option Bool) = some y from hy))
  | succ d ih =>
    refine ctr_of_run (by kernel_rfl) (by kernel_rfl : Try.prog.funcs[113]? = some Try.f113) (code := Try.f113.body.getD .skip) (by kernel_rfl) (by kernel_rfl) (by kernel_rfl) (A := A_impl_ycounts) (I := In_impl_ycounts) (cs := cs_impl_ycounts (R_impl_ycounts d)) (conOf_cons ih conOf_nil) ?_
    rintro ⟨a0, a1, a2, u⟩ y hy
    exact (S_impl_ycounts a0 a1 a2 hy).get
theorem ok_impl_ycounts : CtrOk Try.prog c_impl_ycounts := by
  rintro ⟨a0, a1, a2, u⟩ y hy
  obtain ⟨d, hd⟩ := (evOpt_get hy).get
  exact okR_impl_ycounts d (a0, a1, a2, u) y hd

/-! ## impl.RoleSet).yauthorised (60) -/
noncomputable def P_impl_RoleSet_yauthorised_0_3 (x1 : (List DRoleGrant)) (x2 : (List Int)) (x3 : Int) (x8 : DRoleSet) : List DRoleGrant → (List (List Int)) → Option (List ((List Int) × Bool))
  | [], x4 =>
      Option.bind (E_impl_RoleSet_yjuniors x8 x4) fun (y2 : (List ((List Int) × Bool))) =>
      some y2
  | e :: rest, x4 =>
      bif decide ((e).1 = x2) then
        Option.bind (E_impl_ycounts x1 (e) x3) fun (y1 : Bool) =>
        bif y1 then
          bif decide (((x4.length : Int) + (([((e).2).1] : List (List Int)).length : Int)) * 16 ≤ room) && decide ((x4.length : Int) + (([((e).2).1] : List (List Int)).length : Int) ≤ room) then
            P_impl_RoleSet_yauthorised_0_3 x1 x2 x3 x8 rest (x4 ++ ([((e).2).1] : List (List Int)))
          else none
        else
          P_impl_RoleSet_yauthorised_0_3 x1 x2 x3 x8 rest x4
      else
        P_impl_RoleSet_yauthorised_0_3 x1 x2 x3 x8 rest x4
noncomputable def P_impl_RoleSet_yauthorised (a0 : DRoleSet) (a1 : (List DRoleGrant)) (a2 : (List Int)) (a3 : Int) : Option (List ((List Int) × Bool)) :=
  lenOk a1 (P_impl_RoleSet_yauthorised_0_3 a1 a2 a3 a0 a1 [])
noncomputable def c_impl_RoleSet_yauthorised : Ctr := ⟨60, [TyRoleSet, (.list TyRoleGrant), .str, I64], [(.map .str .bool)], fun x => P_impl_RoleSet_yauthorised x.1 x.2.1 x.2.2.1 x.2.2.2.1⟩
def A_impl_RoleSet_yauthorised : List (List Nat × Ann) := [([0, 3], [.keep 0 1, .keep 0 2, .keep 0 3, .keep 0 4, .own 0 9 .str, .keep 0 12, .keep 0 13, .keep 0 14, .boxd 0 4 TyRoleSet])]
def In_impl_RoleSet_yauthorised : List (List Nat × Nat) := []
noncomputable def cs_impl_RoleSet_yauthorised : List Ctr := [c_impl_ycounts, c_impl_RoleSet_yjuniors]
noncomputable def F_impl_RoleSet_yauthorised (n : Nat) (a0 : DRoleSet) (a1 : (List DRoleGrant)) (a2 : (List Int)) (a3 : Int) : Option (List ((List Int) × Bool)) := run Try.prog A_impl_RoleSet_yauthorised In_impl_RoleSet_yauthorised (conOf cs_impl_RoleSet_yauthorised) Try.f60 (Try.f60.body.getD .skip) (packT [(.map .str .bool)]) n (argsV [TyRoleSet, (.list TyRoleGrant), .str, I64] (a0, a1, a2, a3, ()))
noncomputable abbrev L_impl_RoleSet_yauthorised_0_3 (n : Nat) (x1 : (List DRoleGrant)) (x2 : (List Int)) (x3 : Int) (x4 : (List (List Int))) (x5 : (List DRoleGrant)) (x6 : Int) (x7 : Int) (x8 : DRoleSet) : Option (List ((List Int) × Bool)) := lam Try.prog A_impl_RoleSet_yauthorised In_impl_RoleSet_yauthorised (conOf cs_impl_RoleSet_yauthorised) Try.f60 (Try.f60.body.getD .skip) (packT [(.map .str .bool)]) n [0, 3] [.d (.list TyRoleGrant) x1, .d .str x2, .d I64 x3, .ptr 0 4 0, .own 0 .str x4, .d (.list TyRoleGrant) x5, .d I64 x6, .d I64 x7, .agg (explode TyRoleSet x8)]
theorem F_impl_RoleSet_yauthorised_eq (n : Nat) (a0 : DRoleSet) (a1 : (List DRoleGrant)) (a2 : (List Int)) (a3 : Int) : F_impl_RoleSet_yauthorised n a0 a1 a2 a3 =
    L_impl_RoleSet_yauthorised_0_3 n a1 a2 a3 [] a1 (a1.length : Int) 0 a0 := by kernel_rfl
theorem L_impl_RoleSet_yauthorised_0_3_eq (n : Nat) (x1 : (List DRoleGrant)) (x2 : (List Int)) (x3 : Int) (x4 : (List (List Int))) (x5 : (List DRoleGrant)) (x6 : Int) (x7 : Int) (x8 : DRoleSet) : L_impl_RoleSet_yauthorised_0_3 (n + 1) x1 x2 x3 x4 x5 x6 x7 x8 =
    bif decide (x7 < x6) then
      bif inB x7 x5.length then
        bif decide ((rd x5 x7 (Ty.dflt TyRoleGrant)).1 = x2) then
          Option.bind (E_impl_ycounts x1 (rd x5 x7 (Ty.dflt TyRoleGrant)) x3) fun (y1 : Bool) =>
          bif y1 then
            bif decide (((x4.length : Int) + (([((rd x5 x7 (Ty.dflt TyRoleGrant)).2).1] : List (List Int)).length : Int)) * 16 ≤ room) && decide ((x4.length : Int) + (([((rd x5 x7 (Ty.dflt TyRoleGrant)).2).1] : List (List Int)).length : Int) ≤ room) then
              L_impl_RoleSet_yauthorised_0_3 n x1 x2 x3 (x4 ++ ([((rd x5 x7 (Ty.dflt TyRoleGrant)).2).1] : List (List Int))) x5 x6 (IntKind.wrap .i64 (x7 + 1)) x8
            else none
          else
            L_impl_RoleSet_yauthorised_0_3 n x1 x2 x3 x4 x5 x6 (IntKind.wrap .i64 (x7 + 1)) x8
        else
          L_impl_RoleSet_yauthorised_0_3 n x1 x2 x3 x4 x5 x6 (IntKind.wrap .i64 (x7 + 1)) x8
      else none
    else
      Option.bind (E_impl_RoleSet_yjuniors x8 x4) fun (y2 : (List ((List Int) × Bool))) =>
      some y2 := by kernel_rfl
theorem S_impl_RoleSet_yauthorised_0_3 {x1 : (List DRoleGrant)} {x2 : (List Int)} {x3 : Int} {x8 : DRoleSet} (hl : x1.length ≤ maxLen) : ∀ (rest : List DRoleGrant) (k : Nat) (x4 : (List (List Int))) (r : (List ((List Int) × Bool))), rest = x1.drop k → P_impl_RoleSet_yauthorised_0_3 x1 x2 x3 x8 rest x4 = some r → Ev (fun n => L_impl_RoleSet_yauthorised_0_3 n x1 x2 x3 x4 x1 (x1.length : Int) (k : Int) x8) r := by
  intro rest
  induction rest with
  | nil =>
    intro k x4 r hr h
    have hk := drop_nil hr
    rw [P_impl_RoleSet_yauthorised_0_3] at h
    refine Ev.step ?_ (fun n => L_impl_RoleSet_yauthorised_0_3_eq n x1 x2 x3 x4 x1 (x1.length : Int) (k : Int) x8)
    rw [show decide ((k : Int) < (x1.length : Int)) = false from decide_eq_false (by omega)]
    exact Ev.neg rfl (Ev.ofBind h fun y2 h => (Ev.ofSome h))
  | cons e rest ih =>
    intro k x4 r hr h
    obtain ⟨hk, hx, hr2⟩ := drop_cons (d := (Ty.dflt TyRoleGrant)) hr
    have hw := wrap_succ hl hk
    have ih2 : ∀ (z4 : (List (List Int))) (r : (List ((List Int) × Bool))), P_impl_RoleSet_yauthorised_0_3 x1 x2 x3 x8 rest z4 = some r → Ev (fun n => L_impl_RoleSet_yauthorised_0_3 n x1 x2 x3 z4 x1 (x1.length : Int) (IntKind.wrap .i64 ((k : Int) + 1)) x8) r := by
      intro z4 r h; rw [hw]; exact ih (k + 1) z4 r hr2 h
    rw [P_impl_RoleSet_yauthorised_0_3] at h
    refine Ev.step ?_ (fun n => L_impl_RoleSet_yauthorised_0_3_eq n x1 x2 x3 x4 x1 (x1.length : Int) (k : Int) x8)
    rw [show decide ((k : Int) < (x1.length : Int)) = true from decide_eq_true (by omega), inB_nat2 hk, hx]
    exact Ev.pos rfl (Ev.pos rfl (Ev.ofBif h (fun h => (Ev.ofBind h fun y1 h => (Ev.ofBif h (fun h => (Ev.ofBif h (fun h => (ih2 _ _ h)) (fun h => (Ev.ofNone h)))) (fun h => (ih2 _ _ h))))) (fun h => (ih2 _ _ h))))
theorem S_impl_RoleSet_yauthorised (a0 : DRoleSet) (a1 : (List DRoleGrant)) (a2 : (List Int)) (a3 : Int) {r : (List ((List Int) × Bool))} (h : P_impl_RoleSet_yauthorised a0 a1 a2 a3 = some r) : Ev (fun n => F_impl_RoleSet_yauthorised n a0 a1 a2 a3) r := by
  rw [P_impl_RoleSet_yauthorised] at h
  refine Ev.of_eq ?_ (fun n => F_impl_RoleSet_yauthorised_eq n a0 a1 a2 a3)
  exact (Ev.ofLen h fun hl h => S_impl_RoleSet_yauthorised_0_3 hl _ (0 : Nat) _ _ rfl h)
theorem hcs_impl_RoleSet_yauthorised : ∀ x ∈ cs_impl_RoleSet_yauthorised, CtrOk Try.prog x := (conOf_cons ok_impl_ycounts (conOf_cons ok_impl_RoleSet_yjuniors conOf_nil))
theorem ok_impl_RoleSet_yauthorised : CtrOk Try.prog c_impl_RoleSet_yauthorised := by
  refine ctr_of_run (c := c_impl_RoleSet_yauthorised) (by kernel_rfl) (by kernel_rfl : Try.prog.funcs[60]? = some Try.f60) (code := Try.f60.body.getD .skip) (by kernel_rfl) (by kernel_rfl) (by kernel_rfl) (A := A_impl_RoleSet_yauthorised) (I := In_impl_RoleSet_yauthorised) hcs_impl_RoleSet_yauthorised ?_
  rintro ⟨a0, a1, a2, a3, u⟩ y hy
  exact (S_impl_RoleSet_yauthorised a0 a1 a2 a3 hy).get

/-! ## impl.RoleSet).ytooMany (59) -/
noncomputable def P_impl_RoleSet_ytooMany_0_3_4005_1002_1003 (K0 : Option Bool) (x2 : Int) (x9 : (List ((List Int) × Bool))) (x10 : Bool) (x11 : DApart) : List (List Int) → Int → Option Bool
  | [], x5 =>
      bif x11.2.2 == x10 then
        bif decide (x11.2.1 < x5) then
          some (decide ((0 : Int) ≤ x2))
        else
          K0
      else
        K0
  | e :: rest, x5 =>
      bif getM .str x9 (e) false then
        P_impl_RoleSet_ytooMany_0_3_4005_1002_1003 K0 x2 x9 x10 x11 rest (IntKind.wrap .i64 (x5 + 1))
      else
        P_impl_RoleSet_ytooMany_0_3_4005_1002_1003 K0 x2 x9 x10 x11 rest x5
noncomputable def P_impl_RoleSet_ytooMany_0_2_1002_1003 (x4 : (List ((List Int) × Bool))) (x5 : Bool) : List DApart → Nat → Option Bool
  | [], k =>
      some false
  | e :: rest, k =>
      lenOk ((e).1) (P_impl_RoleSet_ytooMany_0_3_4005_1002_1003 (P_impl_RoleSet_ytooMany_0_2_1002_1003 x4 x5 rest (k + 1)) (k : Int) x4 x5 (e) ((e).1) 0)
noncomputable def P_impl_RoleSet_ytooMany (a0 : DRoleSet) (a1 : (List ((List Int) × Bool))) (a2 : Bool) : Option Bool :=
  lenOk a0.2.1 (P_impl_RoleSet_ytooMany_0_2_1002_1003 a1 a2 a0.2.1 0)
noncomputable def c_impl_RoleSet_ytooMany : Ctr := ⟨59, [TyRoleSet, (.map .str .bool), .bool], [.bool], fun x => P_impl_RoleSet_ytooMany x.1 x.2.1 x.2.2.1⟩
def A_impl_RoleSet_ytooMany : List (List Nat × Ann) := [([0, 2, 1002, 1003], [.keep 2 0, .keep 2 1, .keep 2 7, .keep 2 8, .box 0 4 1, .box 0 5 1]), ([0, 3, 4005, 1002, 1003], [.keep 2 0, .keep 2 1, .keep 2 5, .keep 2 7, .keep 2 8, .keep 3 1, .keep 3 2, .keep 3 3, .keep 3 5, .keep 3 9, .keep 3 10, .keep 3 11, .box 0 4 1, .box 0 5 1, .boxd 3 3 TyApart])]
def In_impl_RoleSet_ytooMany : List (List Nat × Nat) := [([1003], 111), ([1002, 1003], 156), ([4005, 1002, 1003], 112)]
noncomputable def cs_impl_RoleSet_ytooMany : List Ctr := []
noncomputable def F_impl_RoleSet_ytooMany (n : Nat) (a0 : DRoleSet) (a1 : (List ((List Int) × Bool))) (a2 : Bool) : Option Bool := run Try.prog A_impl_RoleSet_ytooMany In_impl_RoleSet_ytooMany (conOf cs_impl_RoleSet_ytooMany) Try.f59 (Try.f59.body.getD .skip) (packT [.bool]) n (argsV [TyRoleSet, (.map .str .bool), .bool] (a0, a1, a2, ()))
noncomputable abbrev L_impl_RoleSet_ytooMany_0_2_1002_1003 (n : Nat) (x1 : (List DApart)) (x2 : Int) (x3 : Int) (x4 : (List ((List Int) × Bool))) (x5 : Bool) : Option Bool := lam Try.prog A_impl_RoleSet_ytooMany In_impl_RoleSet_ytooMany (conOf cs_impl_RoleSet_ytooMany) Try.f59 (Try.f59.body.getD .skip) (packT [.bool]) n [0, 2, 1002, 1003] [.d (.list TyApart) x1, .fn 112 [.ptr 0 4 0, .ptr 0 5 0], .d I64 x2, .d I64 x3, .agg [.d (.map .str .bool) x4], .agg [.d .bool x5]]
noncomputable abbrev L_impl_RoleSet_ytooMany_0_3_4005_1002_1003 (n : Nat) (x1 : (List DApart)) (x2 : Int) (x3 : Int) (x4 : Int) (x5 : Int) (x6 : (List (List Int))) (x7 : Int) (x8 : Int) (x9 : (List ((List Int) × Bool))) (x10 : Bool) (x11 : DApart) : Option Bool := lam Try.prog A_impl_RoleSet_ytooMany In_impl_RoleSet_ytooMany (conOf cs_impl_RoleSet_ytooMany) Try.f59 (Try.f59.body.getD .skip) (packT [.bool]) n [0, 3, 4005, 1002, 1003] [.d (.list TyApart) x1, .fn 112 [.ptr 0 4 0, .ptr 0 5 0], .d I64 x2, .d I64 x3, .d I64 x4, .ptr 0 4 0, .ptr 0 5 0, .ptr 3 3 0, .d I64 x5, .d (.list .str) x6, .d I64 x7, .d I64 x8, .agg [.d (.map .str .bool) x9], .agg [.d .bool x10], .agg (explode TyApart x11)]
theorem F_impl_RoleSet_ytooMany_eq (n : Nat) (a0 : DRoleSet) (a1 : (List ((List Int) × Bool))) (a2 : Bool) : F_impl_RoleSet_ytooMany n a0 a1 a2 =
    L_impl_RoleSet_ytooMany_0_2_1002_1003 n a0.2.1 (a0.2.1.length : Int) 0 a1 a2 := by kernel_rfl
theorem L_impl_RoleSet_ytooMany_0_2_1002_1003_eq (n : Nat) (x1 : (List DApart)) (x2 : Int) (x3 : Int) (x4 : (List ((List Int) × Bool))) (x5 : Bool) : L_impl_RoleSet_ytooMany_0_2_1002_1003 (n + 1) x1 x2 x3 x4 x5 =
    bif decide (x3 < x2) then
      bif inB x3 x1.length then
        L_impl_RoleSet_ytooMany_0_3_4005_1002_1003 n x1 x3 x2 x3 0 ((rd x1 x3 (Ty.dflt TyApart)).1) (((rd x1 x3 (Ty.dflt TyApart)).1).length : Int) 0 x4 x5 (rd x1 x3 (Ty.dflt TyApart))
      else none
    else
      some false := by kernel_rfl
theorem L_impl_RoleSet_ytooMany_0_3_4005_1002_1003_eq (n : Nat) (x1 : (List DApart)) (x2 : Int) (x3 : Int) (x4 : Int) (x5 : Int) (x6 : (List (List Int))) (x7 : Int) (x8 : Int) (x9 : (List ((List Int) × Bool))) (x10 : Bool) (x11 : DApart) : L_impl_RoleSet_ytooMany_0_3_4005_1002_1003 (n + 1) x1 x2 x3 x4 x5 x6 x7 x8 x9 x10 x11 =
    bif decide (x8 < x7) then
      bif inB x8 x6.length then
        bif getM .str x9 (rd x6 x8 (Ty.dflt .str)) false then
          L_impl_RoleSet_ytooMany_0_3_4005_1002_1003 n x1 x2 x3 x4 (IntKind.wrap .i64 (x5 + 1)) x6 x7 (IntKind.wrap .i64 (x8 + 1)) x9 x10 x11
        else
          L_impl_RoleSet_ytooMany_0_3_4005_1002_1003 n x1 x2 x3 x4 x5 x6 x7 (IntKind.wrap .i64 (x8 + 1)) x9 x10 x11
      else none
    else
      bif x11.2.2 == x10 then
        bif decide (x11.2.1 < x5) then
          some (decide ((0 : Int) ≤ x2))
        else
          L_impl_RoleSet_ytooMany_0_2_1002_1003 n x1 x3 (IntKind.wrap .i64 (x4 + 1)) x9 x10
      else
        L_impl_RoleSet_ytooMany_0_2_1002_1003 n x1 x3 (IntKind.wrap .i64 (x4 + 1)) x9 x10 := by kernel_rfl
theorem S_impl_RoleSet_ytooMany_0_3_4005_1002_1003 {K0 : Option Bool} {x1 : (List DApart)} {x2 : Int} {x3 : Int} {x6 : (List (List Int))} {x9 : (List ((List Int) × Bool))} {x10 : Bool} {x11 : DApart} (hl : x6.length ≤ maxLen) (hK0 : ∀  (r : Bool), K0 = some r → Ev (fun n => L_impl_RoleSet_ytooMany_0_2_1002_1003 n x1 x3 (IntKind.wrap .i64 (x2 + 1)) x9 x10) r) : ∀ (rest : List (List Int)) (k : Nat) (x5 : Int) (r : Bool), rest = x6.drop k → P_impl_RoleSet_ytooMany_0_3_4005_1002_1003 K0 x2 x9 x10 x11 rest x5 = some r → Ev (fun n => L_impl_RoleSet_ytooMany_0_3_4005_1002_1003 n x1 x2 x3 x2 x5 x6 (x6.length : Int) (k : Int) x9 x10 x11) r := by
  intro rest
  induction rest with
  | nil =>
    intro k x5 r hr h
    have hk := drop_nil hr
    rw [P_impl_RoleSet_ytooMany_0_3_4005_1002_1003] at h
    refine Ev.step ?_ (fun n => L_impl_RoleSet_ytooMany_0_3_4005_1002_1003_eq n x1 x2 x3 x2 x5 x6 (x6.length : Int) (k : Int) x9 x10 x11)
    rw [show decide ((k : Int) < (x6.length : Int)) = false from decide_eq_false (by omega)]
    exact Ev.neg rfl (Ev.ofBif h (fun h => (Ev.ofBif h (fun h => (Ev.ofSome h)) (fun h => (hK0  _ h)))) (fun h => (hK0  _ h)))
  | cons e rest ih =>
    intro k x5 r hr h
    obtain ⟨hk, hx, hr2⟩ := drop_cons (d := (Ty.dflt .str)) hr
    have hw := wrap_succ hl hk
    have ih2 : ∀ (z5 : Int) (r : Bool), P_impl_RoleSet_ytooMany_0_3_4005_1002_1003 K0 x2 x9 x10 x11 rest z5 = some r → Ev (fun n => L_impl_RoleSet_ytooMany_0_3_4005_1002_1003 n x1 x2 x3 x2 z5 x6 (x6.length : Int) (IntKind.wrap .i64 ((k : Int) + 1)) x9 x10 x11) r := by
      intro z5 r h; rw [hw]; exact ih (k + 1) z5 r hr2 h
    rw [P_impl_RoleSet_ytooMany_0_3_4005_1002_1003] at h
    refine Ev.step ?_ (fun n => L_impl_RoleSet_ytooMany_0_3_4005_1002_1003_eq n x1 x2 x3 x2 x5 x6 (x6.length : Int) (k : Int) x9 x10 x11)
    rw [show decide ((k : Int) < (x6.length : Int)) = true from decide_eq_true (by omega), inB_nat2 hk, hx]
    exact Ev.pos rfl (Ev.pos rfl (Ev.ofBif h (fun h => (ih2 _ _ h)) (fun h => (ih2 _ _ h))))
theorem S_impl_RoleSet_ytooMany_0_2_1002_1003 {x1 : (List DApart)} {x4 : (List ((List Int) × Bool))} {x5 : Bool} (hl : x1.length ≤ maxLen) : ∀ (rest : List DApart) (k : Nat) (r : Bool), rest = x1.drop k → P_impl_RoleSet_ytooMany_0_2_1002_1003 x4 x5 rest k = some r → Ev (fun n => L_impl_RoleSet_ytooMany_0_2_1002_1003 n x1 (x1.length : Int) (k : Int) x4 x5) r := by
  intro rest
  induction rest with
  | nil =>
    intro k r hr h
    have hk := drop_nil hr
    rw [P_impl_RoleSet_ytooMany_0_2_1002_1003] at h
    refine Ev.step ?_ (fun n => L_impl_RoleSet_ytooMany_0_2_1002_1003_eq n x1 (x1.length : Int) (k : Int) x4 x5)
    rw [show decide ((k : Int) < (x1.length : Int)) = false from decide_eq_false (by omega)]
    exact Ev.neg rfl (Ev.ofSome h)
  | cons e rest ih =>
    intro k r hr h
    obtain ⟨hk, hx, hr2⟩ := drop_cons (d := (Ty.dflt TyApart)) hr
    have hw := wrap_succ hl hk
    have ih2 : ∀ (r : Bool), P_impl_RoleSet_ytooMany_0_2_1002_1003 x4 x5 rest (k + 1) = some r → Ev (fun n => L_impl_RoleSet_ytooMany_0_2_1002_1003 n x1 (x1.length : Int) (IntKind.wrap .i64 ((k : Int) + 1)) x4 x5) r := by
      intro r h; rw [hw]; exact ih (k + 1) r hr2 h
    rw [P_impl_RoleSet_ytooMany_0_2_1002_1003] at h
    refine Ev.step ?_ (fun n => L_impl_RoleSet_ytooMany_0_2_1002_1003_eq n x1 (x1.length : Int) (k : Int) x4 x5)
    rw [show decide ((k : Int) < (x1.length : Int)) = true from decide_eq_true (by omega), inB_nat2 hk, hx]
    exact Ev.pos rfl (Ev.pos rfl (Ev.ofLen h fun hl h => S_impl_RoleSet_ytooMany_0_3_4005_1002_1003 hl ih2 _ (0 : Nat) _ _ rfl h))
theorem S_impl_RoleSet_ytooMany (a0 : DRoleSet) (a1 : (List ((List Int) × Bool))) (a2 : Bool) {r : Bool} (h : P_impl_RoleSet_ytooMany a0 a1 a2 = some r) : Ev (fun n => F_impl_RoleSet_ytooMany n a0 a1 a2) r := by
  rw [P_impl_RoleSet_ytooMany] at h
  refine Ev.of_eq ?_ (fun n => F_impl_RoleSet_ytooMany_eq n a0 a1 a2)
  exact (Ev.ofLen h fun hl h => S_impl_RoleSet_ytooMany_0_2_1002_1003 hl _ (0 : Nat) _ rfl h)
theorem hcs_impl_RoleSet_ytooMany : ∀ x ∈ cs_impl_RoleSet_ytooMany, CtrOk Try.prog x := conOf_nil
theorem ok_impl_RoleSet_ytooMany : CtrOk Try.prog c_impl_RoleSet_ytooMany := by
  refine ctr_of_run (c := c_impl_RoleSet_ytooMany) (by kernel_rfl) (by kernel_rfl : Try.prog.funcs[59]? = some Try.f59) (code := Try.f59.body.getD .skip) (by kernel_rfl) (by kernel_rfl) (by kernel_rfl) (A := A_impl_RoleSet_ytooMany) (I := In_impl_RoleSet_ytooMany) hcs_impl_RoleSet_ytooMany ?_
  rintro ⟨a0, a1, a2, u⟩ y hy
  exact (S_impl_RoleSet_ytooMany a0 a1 a2 hy).get

/-! ## impl.RoleSet).ystanding (63) -/
noncomputable def P_impl_RoleSet_ystanding_0_10 (x1 : Int) (x6 : DRoleSet) : List DRoleGrant → (List (List Int)) → Option (List ((List Int) × Bool))
  | [], x2 =>
      Option.bind (E_impl_RoleSet_yjuniors x6 x2) fun (y2 : (List ((List Int) × Bool))) =>
      some y2
  | e :: rest, x2 =>
      bif decide (x1 ≤ ((((e).2).2).2).1) then
        bif decide (((x2.length : Int) + (([((e).2).1] : List (List Int)).length : Int)) * 16 ≤ room) && decide ((x2.length : Int) + (([((e).2).1] : List (List Int)).length : Int) ≤ room) then
          P_impl_RoleSet_ystanding_0_10 x1 x6 rest (x2 ++ ([((e).2).1] : List (List Int)))
        else none
      else
        P_impl_RoleSet_ystanding_0_10 x1 x6 rest x2
noncomputable def P_impl_RoleSet_ystanding_0_4 (x1 : Int) (x2 : (List ((List Int) × Bool))) (x7 : DRoleSet) (x8 : DRoleSession) : List (List Int) → (List (List Int)) → Option (List ((List Int) × Bool))
  | [], x3 =>
      lenOk x8.2.2.2.1 (P_impl_RoleSet_ystanding_0_10 x1 x7 x8.2.2.2.1 x3)
  | e :: rest, x3 =>
      bif getM .str x2 (e) false then
        bif decide (((x3.length : Int) + (([e] : List (List Int)).length : Int)) * 16 ≤ room) && decide ((x3.length : Int) + (([e] : List (List Int)).length : Int) ≤ room) then
          P_impl_RoleSet_ystanding_0_4 x1 x2 x7 x8 rest (x3 ++ ([e] : List (List Int)))
        else none
      else
        P_impl_RoleSet_ystanding_0_4 x1 x2 x7 x8 rest x3
noncomputable def P_impl_RoleSet_ystanding (a0 : DRoleSet) (a1 : DRoleState) (a2 : DRoleSession) (a3 : Int) : Option (List ((List Int) × Bool)) :=
  Option.bind (P_impl_RoleSet_yauthorised a0 a1.2.1 a2.2.1 a3) fun (y1 : (List ((List Int) × Bool))) =>
  lenOk a2.2.2.1 (P_impl_RoleSet_ystanding_0_4 a3 y1 a0 a2 a2.2.2.1 [])
noncomputable def c_impl_RoleSet_ystanding : Ctr := ⟨63, [TyRoleSet, TyRoleState, TyRoleSession, I64], [(.map .str .bool)], fun x => P_impl_RoleSet_ystanding x.1 x.2.1 x.2.2.1 x.2.2.2.1⟩
def A_impl_RoleSet_ystanding : List (List Nat × Ann) := [([0, 4], [.keep 0 3, .keep 0 4, .keep 0 6, .keep 0 9, .own 0 10 .str, .keep 0 23, .keep 0 24, .keep 0 25, .boxd 0 4 TyRoleSet, .boxd 0 6 TyRoleSession]), ([0, 10], [.keep 0 3, .keep 0 4, .own 0 10 .str, .keep 0 38, .keep 0 39, .keep 0 40, .boxd 0 4 TyRoleSet])]
def In_impl_RoleSet_ystanding : List (List Nat × Nat) := []
noncomputable def cs_impl_RoleSet_ystanding : List Ctr := [c_impl_RoleSet_yauthorised, c_impl_RoleSet_yjuniors]
noncomputable def F_impl_RoleSet_ystanding (n : Nat) (a0 : DRoleSet) (a1 : DRoleState) (a2 : DRoleSession) (a3 : Int) : Option (List ((List Int) × Bool)) := run Try.prog A_impl_RoleSet_ystanding In_impl_RoleSet_ystanding (conOf cs_impl_RoleSet_ystanding) Try.f63 (Try.f63.body.getD .skip) (packT [(.map .str .bool)]) n (argsV [TyRoleSet, TyRoleState, TyRoleSession, I64] (a0, a1, a2, a3, ()))
noncomputable abbrev L_impl_RoleSet_ystanding_0_4 (n : Nat) (x1 : Int) (x2 : (List ((List Int) × Bool))) (x3 : (List (List Int))) (x4 : (List (List Int))) (x5 : Int) (x6 : Int) (x7 : DRoleSet) (x8 : DRoleSession) : Option (List ((List Int) × Bool)) := lam Try.prog A_impl_RoleSet_ystanding In_impl_RoleSet_ystanding (conOf cs_impl_RoleSet_ystanding) Try.f63 (Try.f63.body.getD .skip) (packT [(.map .str .bool)]) n [0, 4] [.d I64 x1, .ptr 0 4 0, .ptr 0 6 0, .d (.map .str .bool) x2, .own 0 .str x3, .d (.list .str) x4, .d I64 x5, .d I64 x6, .agg (explode TyRoleSet x7), .agg (explode TyRoleSession x8)]
noncomputable abbrev L_impl_RoleSet_ystanding_0_10 (n : Nat) (x1 : Int) (x2 : (List (List Int))) (x3 : (List DRoleGrant)) (x4 : Int) (x5 : Int) (x6 : DRoleSet) : Option (List ((List Int) × Bool)) := lam Try.prog A_impl_RoleSet_ystanding In_impl_RoleSet_ystanding (conOf cs_impl_RoleSet_ystanding) Try.f63 (Try.f63.body.getD .skip) (packT [(.map .str .bool)]) n [0, 10] [.d I64 x1, .ptr 0 4 0, .own 0 .str x2, .d (.list TyRoleGrant) x3, .d I64 x4, .d I64 x5, .agg (explode TyRoleSet x6)]
theorem F_impl_RoleSet_ystanding_eq (n : Nat) (a0 : DRoleSet) (a1 : DRoleState) (a2 : DRoleSession) (a3 : Int) : F_impl_RoleSet_ystanding n a0 a1 a2 a3 =
    Option.bind (P_impl_RoleSet_yauthorised a0 a1.2.1 a2.2.1 a3) fun (y1 : (List ((List Int) × Bool))) =>
    L_impl_RoleSet_ystanding_0_4 n a3 y1 [] a2.2.2.1 (a2.2.2.1.length : Int) 0 a0 a2 := by kernel_rfl
theorem L_impl_RoleSet_ystanding_0_4_eq (n : Nat) (x1 : Int) (x2 : (List ((List Int) × Bool))) (x3 : (List (List Int))) (x4 : (List (List Int))) (x5 : Int) (x6 : Int) (x7 : DRoleSet) (x8 : DRoleSession) : L_impl_RoleSet_ystanding_0_4 (n + 1) x1 x2 x3 x4 x5 x6 x7 x8 =
    bif decide (x6 < x5) then
      bif inB x6 x4.length then
        bif getM .str x2 (rd x4 x6 (Ty.dflt .str)) false then
          bif decide (((x3.length : Int) + (([rd x4 x6 (Ty.dflt .str)] : List (List Int)).length : Int)) * 16 ≤ room) && decide ((x3.length : Int) + (([rd x4 x6 (Ty.dflt .str)] : List (List Int)).length : Int) ≤ room) then
            L_impl_RoleSet_ystanding_0_4 n x1 x2 (x3 ++ ([rd x4 x6 (Ty.dflt .str)] : List (List Int))) x4 x5 (IntKind.wrap .i64 (x6 + 1)) x7 x8
          else none
        else
          L_impl_RoleSet_ystanding_0_4 n x1 x2 x3 x4 x5 (IntKind.wrap .i64 (x6 + 1)) x7 x8
      else none
    else
      L_impl_RoleSet_ystanding_0_10 n x1 x3 x8.2.2.2.1 (x8.2.2.2.1.length : Int) 0 x7 := by kernel_rfl
theorem L_impl_RoleSet_ystanding_0_10_eq (n : Nat) (x1 : Int) (x2 : (List (List Int))) (x3 : (List DRoleGrant)) (x4 : Int) (x5 : Int) (x6 : DRoleSet) : L_impl_RoleSet_ystanding_0_10 (n + 1) x1 x2 x3 x4 x5 x6 =
    bif decide (x5 < x4) then
      bif inB x5 x3.length then
        bif decide (x1 ≤ ((((rd x3 x5 (Ty.dflt TyRoleGrant)).2).2).2).1) then
          bif decide (((x2.length : Int) + (([((rd x3 x5 (Ty.dflt TyRoleGrant)).2).1] : List (List Int)).length : Int)) * 16 ≤ room) && decide ((x2.length : Int) + (([((rd x3 x5 (Ty.dflt TyRoleGrant)).2).1] : List (List Int)).length : Int) ≤ room) then
            L_impl_RoleSet_ystanding_0_10 n x1 (x2 ++ ([((rd x3 x5 (Ty.dflt TyRoleGrant)).2).1] : List (List Int))) x3 x4 (IntKind.wrap .i64 (x5 + 1)) x6
          else none
        else
          L_impl_RoleSet_ystanding_0_10 n x1 x2 x3 x4 (IntKind.wrap .i64 (x5 + 1)) x6
      else none
    else
      Option.bind (E_impl_RoleSet_yjuniors x6 x2) fun (y2 : (List ((List Int) × Bool))) =>
      some y2 := by kernel_rfl
theorem S_impl_RoleSet_ystanding_0_10 {x1 : Int} {x3 : (List DRoleGrant)} {x6 : DRoleSet} (hl : x3.length ≤ maxLen) : ∀ (rest : List DRoleGrant) (k : Nat) (x2 : (List (List Int))) (r : (List ((List Int) × Bool))), rest = x3.drop k → P_impl_RoleSet_ystanding_0_10 x1 x6 rest x2 = some r → Ev (fun n => L_impl_RoleSet_ystanding_0_10 n x1 x2 x3 (x3.length : Int) (k : Int) x6) r := by
  intro rest
  induction rest with
  | nil =>
    intro k x2 r hr h
    have hk := drop_nil hr
    rw [P_impl_RoleSet_ystanding_0_10] at h
    refine Ev.step ?_ (fun n => L_impl_RoleSet_ystanding_0_10_eq n x1 x2 x3 (x3.length : Int) (k : Int) x6)
    rw [show decide ((k : Int) < (x3.length : Int)) = false from decide_eq_false (by omega)]
    exact Ev.neg rfl (Ev.ofBind h fun y2 h => (Ev.ofSome h))
  | cons e rest ih =>
    intro k x2 r hr h
    obtain ⟨hk, hx, hr2⟩ := drop_cons (d := (Ty.dflt TyRoleGrant)) hr
    have hw := wrap_succ hl hk
    have ih2 : ∀ (z2 : (List (List Int))) (r : (List ((List Int) × Bool))), P_impl_RoleSet_ystanding_0_10 x1 x6 rest z2 = some r → Ev (fun n => L_impl_RoleSet_ystanding_0_10 n x1 z2 x3 (x3.length : Int) (IntKind.wrap .i64 ((k : Int) + 1)) x6) r := by
      intro z2 r h; rw [hw]; exact ih (k + 1) z2 r hr2 h
    rw [P_impl_RoleSet_ystanding_0_10] at h
    refine Ev.step ?_ (fun n => L_impl_RoleSet_ystanding_0_10_eq n x1 x2 x3 (x3.length : Int) (k : Int) x6)
    rw [show decide ((k : Int) < (x3.length : Int)) = true from decide_eq_true (by omega), inB_nat2 hk, hx]
    exact Ev.pos rfl (Ev.pos rfl (Ev.ofBif h (fun h => (Ev.ofBif h (fun h => (ih2 _ _ h)) (fun h => (Ev.ofNone h)))) (fun h => (ih2 _ _ h))))
theorem S_impl_RoleSet_ystanding_0_4 {x1 : Int} {x2 : (List ((List Int) × Bool))} {x4 : (List (List Int))} {x7 : DRoleSet} {x8 : DRoleSession} (hl : x4.length ≤ maxLen) : ∀ (rest : List (List Int)) (k : Nat) (x3 : (List (List Int))) (r : (List ((List Int) × Bool))), rest = x4.drop k → P_impl_RoleSet_ystanding_0_4 x1 x2 x7 x8 rest x3 = some r → Ev (fun n => L_impl_RoleSet_ystanding_0_4 n x1 x2 x3 x4 (x4.length : Int) (k : Int) x7 x8) r := by
  intro rest
  induction rest with
  | nil =>
    intro k x3 r hr h
    have hk := drop_nil hr
    rw [P_impl_RoleSet_ystanding_0_4] at h
    refine Ev.step ?_ (fun n => L_impl_RoleSet_ystanding_0_4_eq n x1 x2 x3 x4 (x4.length : Int) (k : Int) x7 x8)
    rw [show decide ((k : Int) < (x4.length : Int)) = false from decide_eq_false (by omega)]
    exact Ev.neg rfl (Ev.ofLen h fun hl h => S_impl_RoleSet_ystanding_0_10 hl _ (0 : Nat) _ _ rfl h)
  | cons e rest ih =>
    intro k x3 r hr h
    obtain ⟨hk, hx, hr2⟩ := drop_cons (d := (Ty.dflt .str)) hr
    have hw := wrap_succ hl hk
    have ih2 : ∀ (z3 : (List (List Int))) (r : (List ((List Int) × Bool))), P_impl_RoleSet_ystanding_0_4 x1 x2 x7 x8 rest z3 = some r → Ev (fun n => L_impl_RoleSet_ystanding_0_4 n x1 x2 z3 x4 (x4.length : Int) (IntKind.wrap .i64 ((k : Int) + 1)) x7 x8) r := by
      intro z3 r h; rw [hw]; exact ih (k + 1) z3 r hr2 h
    rw [P_impl_RoleSet_ystanding_0_4] at h
    refine Ev.step ?_ (fun n => L_impl_RoleSet_ystanding_0_4_eq n x1 x2 x3 x4 (x4.length : Int) (k : Int) x7 x8)
    rw [show decide ((k : Int) < (x4.length : Int)) = true from decide_eq_true (by omega), inB_nat2 hk, hx]
    exact Ev.pos rfl (Ev.pos rfl (Ev.ofBif h (fun h => (Ev.ofBif h (fun h => (ih2 _ _ h)) (fun h => (Ev.ofNone h)))) (fun h => (ih2 _ _ h))))
theorem S_impl_RoleSet_ystanding (a0 : DRoleSet) (a1 : DRoleState) (a2 : DRoleSession) (a3 : Int) {r : (List ((List Int) × Bool))} (h : P_impl_RoleSet_ystanding a0 a1 a2 a3 = some r) : Ev (fun n => F_impl_RoleSet_ystanding n a0 a1 a2 a3) r := by
  rw [P_impl_RoleSet_ystanding] at h
  refine Ev.of_eq ?_ (fun n => F_impl_RoleSet_ystanding_eq n a0 a1 a2 a3)
  exact (Ev.ofBind h fun y1 h => (Ev.ofLen h fun hl h => S_impl_RoleSet_ystanding_0_4 hl _ (0 : Nat) _ _ rfl h))
theorem hcs_impl_RoleSet_ystanding : ∀ x ∈ cs_impl_RoleSet_ystanding, CtrOk Try.prog x := (conOf_cons ok_impl_RoleSet_yauthorised (conOf_cons ok_impl_RoleSet_yjuniors conOf_nil))
theorem ok_impl_RoleSet_ystanding : CtrOk Try.prog c_impl_RoleSet_ystanding := by
  refine ctr_of_run (c := c_impl_RoleSet_ystanding) (by kernel_rfl) (by kernel_rfl : Try.prog.funcs[63]? = some Try.f63) (code := Try.f63.body.getD .skip) (by kernel_rfl) (by kernel_rfl) (by kernel_rfl) (A := A_impl_RoleSet_ystanding) (I := In_impl_RoleSet_ystanding) hcs_impl_RoleSet_ystanding ?_
  rintro ⟨a0, a1, a2, a3, u⟩ y hy
  exact (S_impl_RoleSet_ystanding a0 a1 a2 a3 hy).get

/-! ## impl.KeptApart (20) -/
noncomputable def P_impl_KeptApart_0_2_1002_9003 (x4 : DRoleSet) (x5 : DRoleState) (x6 : Int) : List DRoleSession → Nat → Option Bool
  | [], k =>
      some true
  | e :: rest, k =>
      bif ((((e).2).2).2).2 then
        Option.bind (P_impl_RoleSet_ystanding x4 x5 (e) x6) fun (y4 : (List ((List Int) × Bool))) =>
        Option.bind (P_impl_RoleSet_ytooMany x4 y4 true) fun (y5 : Bool) =>
        bif y5 then
          some (!decide ((0 : Int) ≤ (k : Int)))
        else
          P_impl_KeptApart_0_2_1002_9003 x4 x5 x6 rest (k + 1)
      else
        P_impl_KeptApart_0_2_1002_9003 x4 x5 x6 rest (k + 1)
noncomputable def P_impl_KeptApart_0_4 (x4 : DRoleSet) (x5 : DRoleState) (x6 : Int) : List DRoleGrant → Option Bool
  | [] =>
      lenOk x5.2.2.1 (P_impl_KeptApart_0_2_1002_9003 x4 x5 x6 x5.2.2.1 0)
  | e :: rest =>
      Option.bind (P_impl_RoleSet_yauthorised x4 x5.2.1 ((e).1) x6) fun (y2 : (List ((List Int) × Bool))) =>
      Option.bind (P_impl_RoleSet_ytooMany x4 y2 false) fun (y3 : Bool) =>
      bif y3 then
        some false
      else
        P_impl_KeptApart_0_4 x4 x5 x6 rest
noncomputable def P_impl_KeptApart (a0 : DRoleSet) (a1 : DRoleState) (a2 : Int) : Option Bool :=
  Option.bind (P_impl_ygoodRoleState a0 a1) fun (y1 : Bool) =>
  bif !(y1) then
    some false
  else
    bif decide (a2 < a1.2.2.2) then
      some false
    else
      lenOk a1.2.1 (P_impl_KeptApart_0_4 a0 a1 a2 a1.2.1)
noncomputable def c_impl_KeptApart : Ctr := ⟨20, [TyRoleSet, TyRoleState, I64], [.bool], fun x => P_impl_KeptApart x.1 x.2.1 x.2.2.1⟩
def A_impl_KeptApart : List (List Nat × Ann) := [([0, 4], [.keep 0 3, .keep 0 4, .keep 0 5, .keep 0 20, .keep 0 21, .keep 0 22, .boxd 0 3 TyRoleSet, .boxd 0 4 TyRoleState, .box 0 5 1]), ([0, 2, 1002, 9003], [.keep 2 0, .keep 2 1, .keep 2 7, .keep 2 8, .boxd 0 3 TyRoleSet, .boxd 0 4 TyRoleState, .box 0 5 1])]
def In_impl_KeptApart : List (List Nat × Nat) := [([9003], 61), ([1002, 9003], 114), ([4005, 1002, 9003], 62)]
noncomputable def cs_impl_KeptApart : List Ctr := [c_impl_ygoodRoleState, c_impl_RoleSet_yauthorised, c_impl_RoleSet_ytooMany, c_impl_RoleSet_ystanding]
noncomputable def F_impl_KeptApart (n : Nat) (a0 : DRoleSet) (a1 : DRoleState) (a2 : Int) : Option Bool := run Try.prog A_impl_KeptApart In_impl_KeptApart (conOf cs_impl_KeptApart) Try.f20 (Try.f20.body.getD .skip) (packT [.bool]) n (argsV [TyRoleSet, TyRoleState, I64] (a0, a1, a2, ()))
noncomputable abbrev L_impl_KeptApart_0_4 (n : Nat) (x1 : (List DRoleGrant)) (x2 : Int) (x3 : Int) (x4 : DRoleSet) (x5 : DRoleState) (x6 : Int) : Option Bool := lam Try.prog A_impl_KeptApart In_impl_KeptApart (conOf cs_impl_KeptApart) Try.f20 (Try.f20.body.getD .skip) (packT [.bool]) n [0, 4] [.ptr 0 3 0, .ptr 0 4 0, .ptr 0 5 0, .d (.list TyRoleGrant) x1, .d I64 x2, .d I64 x3, .agg (explode TyRoleSet x4), .agg (explode TyRoleState x5), .agg [.d I64 x6]]
noncomputable abbrev L_impl_KeptApart_0_2_1002_9003 (n : Nat) (x1 : (List DRoleSession)) (x2 : Int) (x3 : Int) (x4 : DRoleSet) (x5 : DRoleState) (x6 : Int) : Option Bool := lam Try.prog A_impl_KeptApart In_impl_KeptApart (conOf cs_impl_KeptApart) Try.f20 (Try.f20.body.getD .skip) (packT [.bool]) n [0, 2, 1002, 9003] [.d (.list TyRoleSession) x1, .fn 62 [.ptr 0 3 0, .ptr 0 4 0, .ptr 0 5 0], .d I64 x2, .d I64 x3, .agg (explode TyRoleSet x4), .agg (explode TyRoleState x5), .agg [.d I64 x6]]
theorem F_impl_KeptApart_eq (n : Nat) (a0 : DRoleSet) (a1 : DRoleState) (a2 : Int) : F_impl_KeptApart n a0 a1 a2 =
    Option.bind (P_impl_ygoodRoleState a0 a1) fun (y1 : Bool) =>
    bif !(y1) then
      some false
    else
      bif decide (a2 < a1.2.2.2) then
        some false
      else
        L_impl_KeptApart_0_4 n a1.2.1 (a1.2.1.length : Int) 0 a0 a1 a2 := by kernel_rfl
theorem L_impl_KeptApart_0_4_eq (n : Nat) (x1 : (List DRoleGrant)) (x2 : Int) (x3 : Int) (x4 : DRoleSet) (x5 : DRoleState) (x6 : Int) : L_impl_KeptApart_0_4 (n + 1) x1 x2 x3 x4 x5 x6 =
    bif decide (x3 < x2) then
      bif inB x3 x1.length then
        Option.bind (P_impl_RoleSet_yauthorised x4 x5.2.1 ((rd x1 x3 (Ty.dflt TyRoleGrant)).1) x6) fun (y2 : (List ((List Int) × Bool))) =>
        Option.bind (P_impl_RoleSet_ytooMany x4 y2 false) fun (y3 : Bool) =>
        bif y3 then
          some false
        else
          L_impl_KeptApart_0_4 n x1 x2 (IntKind.wrap .i64 (x3 + 1)) x4 x5 x6
      else none
    else
      L_impl_KeptApart_0_2_1002_9003 n x5.2.2.1 (x5.2.2.1.length : Int) 0 x4 x5 x6 := by kernel_rfl
theorem L_impl_KeptApart_0_2_1002_9003_eq (n : Nat) (x1 : (List DRoleSession)) (x2 : Int) (x3 : Int) (x4 : DRoleSet) (x5 : DRoleState) (x6 : Int) : L_impl_KeptApart_0_2_1002_9003 (n + 1) x1 x2 x3 x4 x5 x6 =
    bif decide (x3 < x2) then
      bif inB x3 x1.length then
        bif ((((rd x1 x3 (Ty.dflt TyRoleSession)).2).2).2).2 then
          Option.bind (P_impl_RoleSet_ystanding x4 x5 (rd x1 x3 (Ty.dflt TyRoleSession)) x6) fun (y4 : (List ((List Int) × Bool))) =>
          Option.bind (P_impl_RoleSet_ytooMany x4 y4 true) fun (y5 : Bool) =>
          bif y5 then
            some (!decide ((0 : Int) ≤ x3))
          else
            L_impl_KeptApart_0_2_1002_9003 n x1 x2 (IntKind.wrap .i64 (x3 + 1)) x4 x5 x6
        else
          L_impl_KeptApart_0_2_1002_9003 n x1 x2 (IntKind.wrap .i64 (x3 + 1)) x4 x5 x6
      else none
    else
      some true := by kernel_rfl
theorem S_impl_KeptApart_0_2_1002_9003 {x1 : (List DRoleSession)} {x4 : DRoleSet} {x5 : DRoleState} {x6 : Int} (hl : x1.length ≤ maxLen) : ∀ (rest : List DRoleSession) (k : Nat) (r : Bool), rest = x1.drop k → P_impl_KeptApart_0_2_1002_9003 x4 x5 x6 rest k = some r → Ev (fun n => L_impl_KeptApart_0_2_1002_9003 n x1 (x1.length : Int) (k : Int) x4 x5 x6) r := by
  intro rest
  induction rest with
  | nil =>
    intro k r hr h
    have hk := drop_nil hr
    rw [P_impl_KeptApart_0_2_1002_9003] at h
    refine Ev.step ?_ (fun n => L_impl_KeptApart_0_2_1002_9003_eq n x1 (x1.length : Int) (k : Int) x4 x5 x6)
    rw [show decide ((k : Int) < (x1.length : Int)) = false from decide_eq_false (by omega)]
    exact Ev.neg rfl (Ev.ofSome h)
  | cons e rest ih =>
    intro k r hr h
    obtain ⟨hk, hx, hr2⟩ := drop_cons (d := (Ty.dflt TyRoleSession)) hr
    have hw := wrap_succ hl hk
    have ih2 : ∀ (r : Bool), P_impl_KeptApart_0_2_1002_9003 x4 x5 x6 rest (k + 1) = some r → Ev (fun n => L_impl_KeptApart_0_2_1002_9003 n x1 (x1.length : Int) (IntKind.wrap .i64 ((k : Int) + 1)) x4 x5 x6) r := by
      intro r h; rw [hw]; exact ih (k + 1) r hr2 h
    rw [P_impl_KeptApart_0_2_1002_9003] at h
    refine Ev.step ?_ (fun n => L_impl_KeptApart_0_2_1002_9003_eq n x1 (x1.length : Int) (k : Int) x4 x5 x6)
    rw [show decide ((k : Int) < (x1.length : Int)) = true from decide_eq_true (by omega), inB_nat2 hk, hx]
    exact Ev.pos rfl (Ev.pos rfl (Ev.ofBif h (fun h => (Ev.ofBind h fun y4 h => (Ev.ofBind h fun y5 h => (Ev.ofBif h (fun h => (Ev.ofSome h)) (fun h => (ih2  _ h)))))) (fun h => (ih2  _ h))))
theorem S_impl_KeptApart_0_4 {x1 : (List DRoleGrant)} {x4 : DRoleSet} {x5 : DRoleState} {x6 : Int} (hl : x1.length ≤ maxLen) : ∀ (rest : List DRoleGrant) (k : Nat) (r : Bool), rest = x1.drop k → P_impl_KeptApart_0_4 x4 x5 x6 rest = some r → Ev (fun n => L_impl_KeptApart_0_4 n x1 (x1.length : Int) (k : Int) x4 x5 x6) r := by
  intro rest
  induction rest with
  | nil =>
    intro k r hr h
    have hk := drop_nil hr
    rw [P_impl_KeptApart_0_4] at h
    refine Ev.step ?_ (fun n => L_impl_KeptApart_0_4_eq n x1 (x1.length : Int) (k : Int) x4 x5 x6)
    rw [show decide ((k : Int) < (x1.length : Int)) = false from decide_eq_false (by omega)]
    exact Ev.neg rfl (Ev.ofLen h fun hl h => S_impl_KeptApart_0_2_1002_9003 hl _ (0 : Nat) _ rfl h)
  | cons e rest ih =>
    intro k r hr h
    obtain ⟨hk, hx, hr2⟩ := drop_cons (d := (Ty.dflt TyRoleGrant)) hr
    have hw := wrap_succ hl hk
    have ih2 : ∀ (r : Bool), P_impl_KeptApart_0_4 x4 x5 x6 rest = some r → Ev (fun n => L_impl_KeptApart_0_4 n x1 (x1.length : Int) (IntKind.wrap .i64 ((k : Int) + 1)) x4 x5 x6) r := by
      intro r h; rw [hw]; exact ih (k + 1) r hr2 h
    rw [P_impl_KeptApart_0_4] at h
    refine Ev.step ?_ (fun n => L_impl_KeptApart_0_4_eq n x1 (x1.length : Int) (k : Int) x4 x5 x6)
    rw [show decide ((k : Int) < (x1.length : Int)) = true from decide_eq_true (by omega), inB_nat2 hk, hx]
    exact Ev.pos rfl (Ev.pos rfl (Ev.ofBind h fun y2 h => (Ev.ofBind h fun y3 h => (Ev.ofBif h (fun h => (Ev.ofSome h)) (fun h => (ih2  _ h))))))
theorem S_impl_KeptApart (a0 : DRoleSet) (a1 : DRoleState) (a2 : Int) {r : Bool} (h : P_impl_KeptApart a0 a1 a2 = some r) : Ev (fun n => F_impl_KeptApart n a0 a1 a2) r := by
  rw [P_impl_KeptApart] at h
  refine Ev.of_eq ?_ (fun n => F_impl_KeptApart_eq n a0 a1 a2)
  exact (Ev.ofBind h fun y1 h => (Ev.ofBif h (fun h => (Ev.ofSome h)) (fun h => (Ev.ofBif h (fun h => (Ev.ofSome h)) (fun h => (Ev.ofLen h fun hl h => S_impl_KeptApart_0_4 hl _ (0 : Nat) _ rfl h))))))
theorem hcs_impl_KeptApart : ∀ x ∈ cs_impl_KeptApart, CtrOk Try.prog x := (conOf_cons ok_impl_ygoodRoleState (conOf_cons ok_impl_RoleSet_yauthorised (conOf_cons ok_impl_RoleSet_ytooMany (conOf_cons ok_impl_RoleSet_ystanding conOf_nil))))
theorem ok_impl_KeptApart : CtrOk Try.prog c_impl_KeptApart := by
  refine ctr_of_run (c := c_impl_KeptApart) (by kernel_rfl) (by kernel_rfl : Try.prog.funcs[20]? = some Try.f20) (code := Try.f20.body.getD .skip) (by kernel_rfl) (by kernel_rfl) (by kernel_rfl) (A := A_impl_KeptApart) (I := In_impl_KeptApart) hcs_impl_KeptApart ?_
  rintro ⟨a0, a1, a2, u⟩ y hy
  exact (S_impl_KeptApart a0 a1 a2 hy).get

/-! ## laws.szStringS (42) -/
noncomputable def c_laws_szStringS : Ctr := ⟨42, [(.list .str), I64], [I64], fun x => szC (.list .str) x.1 x.2.1⟩
def A_laws_szStringS : List (List Nat × Ann) := [([0, 5], [.keep 0 0, .keep 0 1, .keep 0 5])]
def In_laws_szStringS : List (List Nat × Nat) := []
noncomputable def cs_laws_szStringS : List Ctr := []
noncomputable def F_laws_szStringS (n : Nat) (a0 : (List (List Int))) (a1 : Int) : Option Int := run Try.prog A_laws_szStringS In_laws_szStringS (conOf cs_laws_szStringS) Try.f42 (Try.f42.body.getD .skip) (packT [I64]) n (argsV [(.list .str), I64] (a0, a1, ()))
noncomputable abbrev L_laws_szStringS_0_5 (n : Nat) (x1 : (List (List Int))) (x2 : Int) (x3 : Int) : Option Int := lam Try.prog A_laws_szStringS In_laws_szStringS (conOf cs_laws_szStringS) Try.f42 (Try.f42.body.getD .skip) (packT [I64]) n [0, 5] [.d (.list .str) x1, .d I64 x2, .d I64 x3]
theorem F_laws_szStringS_eq (n : Nat) (a0 : (List (List Int))) (a1 : Int) : F_laws_szStringS n a0 a1 =
    bif decide (IntKind.wrap .i64 (a1 - (a0.length : Int)) < 0) then
      some (-1)
    else
      L_laws_szStringS_0_5 n a0 (IntKind.wrap .i64 (a1 - (a0.length : Int))) 0 := by kernel_rfl
theorem L_laws_szStringS_0_5_eq (n : Nat) (x1 : (List (List Int))) (x2 : Int) (x3 : Int) : L_laws_szStringS_0_5 (n + 1) x1 x2 x3 =
    bif decide (x3 < (x1.length : Int)) then
      bif inB x3 x1.length then
        bif decide (IntKind.wrap .i64 (x2 - ((rd x1 x3 (Ty.dflt .str)).length : Int)) < 0) then
          some (-1)
        else
          L_laws_szStringS_0_5 n x1 (IntKind.wrap .i64 (x2 - ((rd x1 x3 (Ty.dflt .str)).length : Int))) (IntKind.wrap .i64 (x3 + 1))
      else none
    else
      some x2 := by kernel_rfl
theorem mk_laws_szStringS (hcs : ∀ x ∈ cs_laws_szStringS, CtrOk Try.prog x) (h : ∀ (a0 : (List (List Int))) (a1 : Int) y, szC (.list .str) a0 a1 = some y → ∃ n, F_laws_szStringS n a0 a1 = some y) : CtrOk Try.prog c_laws_szStringS := by
  refine ctr_of_run (c := c_laws_szStringS) (by kernel_rfl) (by kernel_rfl : Try.prog.funcs[42]? = some Try.f42) (code := Try.f42.body.getD .skip) (by kernel_rfl) (by kernel_rfl) (by kernel_rfl) (A := A_laws_szStringS) (I := In_laws_szStringS) hcs ?_
  rintro ⟨a0, a1, u⟩ y hy
  exact h a0 a1 y hy

theorem hcs_laws_szStringS : ∀ x ∈ cs_laws_szStringS, CtrOk Try.prog x := conOf_nil
theorem ok_laws_szStringS : CtrOk Try.prog c_laws_szStringS := mk_laws_szStringS hcs_laws_szStringS fun a0 a1 y hy => by
  obtain ⟨n, hn⟩ := szS_str (fun n xs s i => L_laws_szStringS_0_5_eq n xs s i) hy
  exact ⟨n, (F_laws_szStringS_eq n a0 a1).trans hn⟩
/-! ## laws.szRole (97) -/
noncomputable def c_laws_szRole : Ctr := ⟨97, [TyRole, I64], [I64], fun x => szC TyRole x.1 x.2.1⟩
def A_laws_szRole : List (List Nat × Ann) := []
def In_laws_szRole : List (List Nat × Nat) := []
noncomputable def cs_laws_szRole : List Ctr := [c_laws_szStringS]
noncomputable def F_laws_szRole (n : Nat) (a0 : DRole) (a1 : Int) : Option Int := run Try.prog A_laws_szRole In_laws_szRole (conOf cs_laws_szRole) Try.f97 (Try.f97.body.getD .skip) (packT [I64]) n (argsV [TyRole, I64] (a0, a1, ()))
theorem F_laws_szRole_eq (n : Nat) (a0 : DRole) (a1 : Int) : F_laws_szRole n a0 a1 =
    bif decide (IntKind.wrap .i64 (a1 - (a0.1.length : Int)) < 0) then
      some (-1)
    else
      Option.bind (szC (.list .str) a0.2.1 (IntKind.wrap .i64 (a1 - (a0.1.length : Int)))) fun (y1 : Int) =>
      bif decide (y1 < 0) then
        some (-1)
      else
        Option.bind (szC (.list .str) a0.2.2 y1) fun (y2 : Int) =>
        bif decide (y2 < 0) then
          some (-1)
        else
          some y2 := by kernel_rfl
theorem mk_laws_szRole (hcs : ∀ x ∈ cs_laws_szRole, CtrOk Try.prog x) (h : ∀ (a0 : DRole) (a1 : Int) y, szC TyRole a0 a1 = some y → ∃ n, F_laws_szRole n a0 a1 = some y) : CtrOk Try.prog c_laws_szRole := by
  refine ctr_of_run (c := c_laws_szRole) (by kernel_rfl) (by kernel_rfl : Try.prog.funcs[97]? = some Try.f97) (code := Try.f97.body.getD .skip) (by kernel_rfl) (by kernel_rfl) (by kernel_rfl) (A := A_laws_szRole) (I := In_laws_szRole) hcs ?_
  rintro ⟨a0, a1, u⟩ y hy
  exact h a0 a1 y hy

theorem hcs_laws_szRole : ∀ x ∈ cs_laws_szRole, CtrOk Try.prog x := (conOf_cons ok_laws_szStringS conOf_nil)
theorem ok_laws_szRole : CtrOk Try.prog c_laws_szRole := mk_laws_szRole hcs_laws_szRole fun a0 a1 y hy => by
  obtain ⟨hw, h0, h1, rfl⟩ := szC_inv hy
  have hw2 : wfD .str a0.1 ∧ wfD (.list .str) a0.2.1 ∧ wfD (.list .str) a0.2.2 := hw
  have hsz : Ty.size TyRole a0 = Ty.size .str a0.1 + (Ty.size (.list .str) a0.2.1 + (Ty.size (.list .str) a0.2.2)) := rfl
  have z0 : Ty.size .str a0.1 = a0.1.length := rfl
  refine ⟨0, ?_⟩
  rw [F_laws_szRole_eq, hsz]
  have hn0 : a0.1.length ≤ maxLen := by have := (hw2.1).1; unfold maxLen; omega
  rw [lessZ_wrap (left := a1) (n := a0.1.length) (by omega) (by omega) hn0]
  rcases Int.lt_or_le (a1) (a0.1.length : Int) with h | h
  · rw [decide_eq_true (show (a1 - (a0.1.length : Int)) < 0 by omega)]; simp only [cond_true]; unfold lessZ; rw [if_neg (by omega)]
  rw [decide_eq_false (show ¬ (a1 - (a0.1.length : Int)) < 0 by omega)]; simp only [cond_false]
  have h_0 := h; clear h
  rw [szC_some hw2.2.1 (show 0 ≤ (a1 - (a0.1.length : Int)) by omega) (by omega)]
  simp only [Option.bind_some]
  rcases Int.lt_or_le ((a1 - (a0.1.length : Int))) ((Ty.size (.list .str) a0.2.1 : Nat) : Int) with h | h
  · rw [show lessZ ((a1 - (a0.1.length : Int))) (Ty.size (.list .str) a0.2.1) = -1 by unfold lessZ; rw [if_neg (by omega)]]; rw [decide_eq_true (show (-1 : Int) < 0 by omega)]; simp only [cond_true]; unfold lessZ; rw [if_neg (by omega)]
  rw [show lessZ ((a1 - (a0.1.length : Int))) (Ty.size (.list .str) a0.2.1) = ((a1 - (a0.1.length : Int)) - ((Ty.size (.list .str) a0.2.1 : Nat) : Int)) by unfold lessZ; rw [if_pos h]]; rw [decide_eq_false (show ¬ ((a1 - (a0.1.length : Int)) - ((Ty.size (.list .str) a0.2.1 : Nat) : Int)) < 0 by omega)]; simp only [cond_false]
  have h_1 := h; clear h
  rw [szC_some hw2.2.2 (show 0 ≤ ((a1 - (a0.1.length : Int)) - ((Ty.size (.list .str) a0.2.1 : Nat) : Int)) by omega) (by omega)]
  simp only [Option.bind_some]
  rcases Int.lt_or_le (((a1 - (a0.1.length : Int)) - ((Ty.size (.list .str) a0.2.1 : Nat) : Int))) ((Ty.size (.list .str) a0.2.2 : Nat) : Int) with h | h
  · rw [show lessZ (((a1 - (a0.1.length : Int)) - ((Ty.size (.list .str) a0.2.1 : Nat) : Int))) (Ty.size (.list .str) a0.2.2) = -1 by unfold lessZ; rw [if_neg (by omega)]]; rw [decide_eq_true (show (-1 : Int) < 0 by omega)]; simp only [cond_true]; unfold lessZ; rw [if_neg (by omega)]
  rw [show lessZ (((a1 - (a0.1.length : Int)) - ((Ty.size (.list .str) a0.2.1 : Nat) : Int))) (Ty.size (.list .str) a0.2.2) = (((a1 - (a0.1.length : Int)) - ((Ty.size (.list .str) a0.2.1 : Nat) : Int)) - ((Ty.size (.list .str) a0.2.2 : Nat) : Int)) by unfold lessZ; rw [if_pos h]]; rw [decide_eq_false (show ¬ (((a1 - (a0.1.length : Int)) - ((Ty.size (.list .str) a0.2.1 : Nat) : Int)) - ((Ty.size (.list .str) a0.2.2 : Nat) : Int)) < 0 by omega)]; simp only [cond_false]
  have h_2 := h; clear h
  unfold lessZ; rw [if_pos (by omega)]; congr 1 <;> omega
/-! ## laws.szRoleS (40) -/
noncomputable def c_laws_szRoleS : Ctr := ⟨40, [(.list TyRole), I64], [I64], fun x => szC (.list TyRole) x.1 x.2.1⟩
def A_laws_szRoleS : List (List Nat × Ann) := [([0, 5], [.keep 0 0, .keep 0 1, .keep 0 5])]
def In_laws_szRoleS : List (List Nat × Nat) := []
noncomputable def cs_laws_szRoleS : List Ctr := [c_laws_szRole]
noncomputable def F_laws_szRoleS (n : Nat) (a0 : (List DRole)) (a1 : Int) : Option Int := run Try.prog A_laws_szRoleS In_laws_szRoleS (conOf cs_laws_szRoleS) Try.f40 (Try.f40.body.getD .skip) (packT [I64]) n (argsV [(.list TyRole), I64] (a0, a1, ()))
noncomputable abbrev L_laws_szRoleS_0_5 (n : Nat) (x1 : (List DRole)) (x2 : Int) (x3 : Int) : Option Int := lam Try.prog A_laws_szRoleS In_laws_szRoleS (conOf cs_laws_szRoleS) Try.f40 (Try.f40.body.getD .skip) (packT [I64]) n [0, 5] [.d (.list TyRole) x1, .d I64 x2, .d I64 x3]
theorem F_laws_szRoleS_eq (n : Nat) (a0 : (List DRole)) (a1 : Int) : F_laws_szRoleS n a0 a1 =
    bif decide (IntKind.wrap .i64 (a1 - (a0.length : Int)) < 0) then
      some (-1)
    else
      L_laws_szRoleS_0_5 n a0 (IntKind.wrap .i64 (a1 - (a0.length : Int))) 0 := by kernel_rfl
theorem L_laws_szRoleS_0_5_eq (n : Nat) (x1 : (List DRole)) (x2 : Int) (x3 : Int) : L_laws_szRoleS_0_5 (n + 1) x1 x2 x3 =
    bif decide (x3 < (x1.length : Int)) then
      bif inB x3 x1.length then
        Option.bind (szC TyRole (rd x1 x3 (Ty.dflt TyRole)) x2) fun (y1 : Int) =>
        bif decide (y1 < 0) then
          some (-1)
        else
          L_laws_szRoleS_0_5 n x1 y1 (IntKind.wrap .i64 (x3 + 1))
      else none
    else
      some x2 := by kernel_rfl
theorem mk_laws_szRoleS (hcs : ∀ x ∈ cs_laws_szRoleS, CtrOk Try.prog x) (h : ∀ (a0 : (List DRole)) (a1 : Int) y, szC (.list TyRole) a0 a1 = some y → ∃ n, F_laws_szRoleS n a0 a1 = some y) : CtrOk Try.prog c_laws_szRoleS := by
  refine ctr_of_run (c := c_laws_szRoleS) (by kernel_rfl) (by kernel_rfl : Try.prog.funcs[40]? = some Try.f40) (code := Try.f40.body.getD .skip) (by kernel_rfl) (by kernel_rfl) (by kernel_rfl) (A := A_laws_szRoleS) (I := In_laws_szRoleS) hcs ?_
  rintro ⟨a0, a1, u⟩ y hy
  exact h a0 a1 y hy

theorem hcs_laws_szRoleS : ∀ x ∈ cs_laws_szRoleS, CtrOk Try.prog x := (conOf_cons ok_laws_szRole conOf_nil)
theorem ok_laws_szRoleS : CtrOk Try.prog c_laws_szRoleS := mk_laws_szRoleS hcs_laws_szRoleS fun a0 a1 y hy => by
  obtain ⟨n, hn⟩ := szS_call (fun n xs s i => L_laws_szRoleS_0_5_eq n xs s i) hy
  exact ⟨n, (F_laws_szRoleS_eq n a0 a1).trans hn⟩
/-! ## laws.szApart (98) -/
noncomputable def c_laws_szApart : Ctr := ⟨98, [TyApart, I64], [I64], fun x => szC TyApart x.1 x.2.1⟩
def A_laws_szApart : List (List Nat × Ann) := []
def In_laws_szApart : List (List Nat × Nat) := []
noncomputable def cs_laws_szApart : List Ctr := [c_laws_szStringS]
noncomputable def F_laws_szApart (n : Nat) (a0 : DApart) (a1 : Int) : Option Int := run Try.prog A_laws_szApart In_laws_szApart (conOf cs_laws_szApart) Try.f98 (Try.f98.body.getD .skip) (packT [I64]) n (argsV [TyApart, I64] (a0, a1, ()))
theorem F_laws_szApart_eq (n : Nat) (a0 : DApart) (a1 : Int) : F_laws_szApart n a0 a1 =
    Option.bind (szC (.list .str) a0.1 a1) fun (y1 : Int) =>
    bif decide (y1 < 0) then
      some (-1)
    else
      some y1 := by kernel_rfl
theorem mk_laws_szApart (hcs : ∀ x ∈ cs_laws_szApart, CtrOk Try.prog x) (h : ∀ (a0 : DApart) (a1 : Int) y, szC TyApart a0 a1 = some y → ∃ n, F_laws_szApart n a0 a1 = some y) : CtrOk Try.prog c_laws_szApart := by
  refine ctr_of_run (c := c_laws_szApart) (by kernel_rfl) (by kernel_rfl : Try.prog.funcs[98]? = some Try.f98) (code := Try.f98.body.getD .skip) (by kernel_rfl) (by kernel_rfl) (by kernel_rfl) (A := A_laws_szApart) (I := In_laws_szApart) hcs ?_
  rintro ⟨a0, a1, u⟩ y hy
  exact h a0 a1 y hy

theorem hcs_laws_szApart : ∀ x ∈ cs_laws_szApart, CtrOk Try.prog x := (conOf_cons ok_laws_szStringS conOf_nil)
theorem ok_laws_szApart : CtrOk Try.prog c_laws_szApart := mk_laws_szApart hcs_laws_szApart fun a0 a1 y hy => by
  obtain ⟨hw, h0, h1, rfl⟩ := szC_inv hy
  have hw2 : wfD (.list .str) a0.1 ∧ wfD I64 a0.2.1 ∧ wfD .bool a0.2.2 := hw
  have hsz : Ty.size TyApart a0 = Ty.size (.list .str) a0.1 + (Ty.size I64 a0.2.1 + (Ty.size .bool a0.2.2)) := rfl
  have z1 : Ty.size I64 a0.2.1 = 0 := rfl
  have z2 : Ty.size .bool a0.2.2 = 0 := rfl
  refine ⟨0, ?_⟩
  rw [F_laws_szApart_eq, hsz]
  rw [szC_some hw2.1 (show 0 ≤ a1 by omega) (by omega)]
  simp only [Option.bind_some]
  rcases Int.lt_or_le (a1) ((Ty.size (.list .str) a0.1 : Nat) : Int) with h | h
  · rw [show lessZ (a1) (Ty.size (.list .str) a0.1) = -1 by unfold lessZ; rw [if_neg (by omega)]]; rw [decide_eq_true (show (-1 : Int) < 0 by omega)]; simp only [cond_true]; unfold lessZ; rw [if_neg (by omega)]
  rw [show lessZ (a1) (Ty.size (.list .str) a0.1) = (a1 - ((Ty.size (.list .str) a0.1 : Nat) : Int)) by unfold lessZ; rw [if_pos h]]; rw [decide_eq_false (show ¬ (a1 - ((Ty.size (.list .str) a0.1 : Nat) : Int)) < 0 by omega)]; simp only [cond_false]
  have h_0 := h; clear h
  unfold lessZ; rw [if_pos (by omega)]; congr 1 <;> omega
/-! ## laws.szApartS (41) -/
noncomputable def c_laws_szApartS : Ctr := ⟨41, [(.list TyApart), I64], [I64], fun x => szC (.list TyApart) x.1 x.2.1⟩
def A_laws_szApartS : List (List Nat × Ann) := [([0, 5], [.keep 0 0, .keep 0 1, .keep 0 5])]
def In_laws_szApartS : List (List Nat × Nat) := []
noncomputable def cs_laws_szApartS : List Ctr := [c_laws_szApart]
noncomputable def F_laws_szApartS (n : Nat) (a0 : (List DApart)) (a1 : Int) : Option Int := run Try.prog A_laws_szApartS In_laws_szApartS (conOf cs_laws_szApartS) Try.f41 (Try.f41.body.getD .skip) (packT [I64]) n (argsV [(.list TyApart), I64] (a0, a1, ()))
noncomputable abbrev L_laws_szApartS_0_5 (n : Nat) (x1 : (List DApart)) (x2 : Int) (x3 : Int) : Option Int := lam Try.prog A_laws_szApartS In_laws_szApartS (conOf cs_laws_szApartS) Try.f41 (Try.f41.body.getD .skip) (packT [I64]) n [0, 5] [.d (.list TyApart) x1, .d I64 x2, .d I64 x3]
theorem F_laws_szApartS_eq (n : Nat) (a0 : (List DApart)) (a1 : Int) : F_laws_szApartS n a0 a1 =
    bif decide (IntKind.wrap .i64 (a1 - (a0.length : Int)) < 0) then
      some (-1)
    else
      L_laws_szApartS_0_5 n a0 (IntKind.wrap .i64 (a1 - (a0.length : Int))) 0 := by kernel_rfl
theorem L_laws_szApartS_0_5_eq (n : Nat) (x1 : (List DApart)) (x2 : Int) (x3 : Int) : L_laws_szApartS_0_5 (n + 1) x1 x2 x3 =
    bif decide (x3 < (x1.length : Int)) then
      bif inB x3 x1.length then
        Option.bind (szC TyApart (rd x1 x3 (Ty.dflt TyApart)) x2) fun (y1 : Int) =>
        bif decide (y1 < 0) then
          some (-1)
        else
          L_laws_szApartS_0_5 n x1 y1 (IntKind.wrap .i64 (x3 + 1))
      else none
    else
      some x2 := by kernel_rfl
theorem mk_laws_szApartS (hcs : ∀ x ∈ cs_laws_szApartS, CtrOk Try.prog x) (h : ∀ (a0 : (List DApart)) (a1 : Int) y, szC (.list TyApart) a0 a1 = some y → ∃ n, F_laws_szApartS n a0 a1 = some y) : CtrOk Try.prog c_laws_szApartS := by
  refine ctr_of_run (c := c_laws_szApartS) (by kernel_rfl) (by kernel_rfl : Try.prog.funcs[41]? = some Try.f41) (code := Try.f41.body.getD .skip) (by kernel_rfl) (by kernel_rfl) (by kernel_rfl) (A := A_laws_szApartS) (I := In_laws_szApartS) hcs ?_
  rintro ⟨a0, a1, u⟩ y hy
  exact h a0 a1 y hy

theorem hcs_laws_szApartS : ∀ x ∈ cs_laws_szApartS, CtrOk Try.prog x := (conOf_cons ok_laws_szApart conOf_nil)
theorem ok_laws_szApartS : CtrOk Try.prog c_laws_szApartS := mk_laws_szApartS hcs_laws_szApartS fun a0 a1 y hy => by
  obtain ⟨n, hn⟩ := szS_call (fun n xs s i => L_laws_szApartS_0_5_eq n xs s i) hy
  exact ⟨n, (F_laws_szApartS_eq n a0 a1).trans hn⟩
end Go.Ab
