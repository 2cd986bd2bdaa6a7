/- generated -/
import Derived.Test.YtaaehcjdphienaaGreatAb34
import Derived.Test.YtaaehcjdphienaaGreatSortAuth
import Derived.Test.YtaaehcjdphienaaGreatProg
import Derived.KernelRfl
namespace Go.Ab
open Go.Proofs
set_option maxRecDepth 20000
abbrev I64 : Ty := .int .i64
abbrev U8 : Ty := .int .u8
abbrev TyboundsError : Ty := (.pair I64 (.pair I64 (.pair .bool U8)))
abbrev DboundsError : Type := (Int × (Int × (Bool × Int)))
abbrev TyerrorAddressString : Ty := (.pair .str (.int .u64))
abbrev DerrorAddressString : Type := ((List Int) × Int)
abbrev TyRole : Ty := (.pair .str (.pair (.list .str) (.list .str)))
abbrev DRole : Type := ((List Int) × ((List (List Int)) × (List (List Int))))
abbrev TyApart : Ty := (.pair (.list .str) (.pair I64 .bool))
abbrev DApart : Type := ((List (List Int)) × (Int × Bool))
abbrev TyRoleSet : Ty := (.pair (.list TyRole) (.pair (.list TyApart) (.list .str)))
abbrev DRoleSet : Type := ((List DRole) × ((List DApart) × (List (List Int))))
abbrev TyRoleGrant : Ty := (.pair .str (.pair .str (.pair .str (.pair I64 (.pair I64 I64)))))
abbrev DRoleGrant : Type := ((List Int) × ((List Int) × ((List Int) × (Int × (Int × Int)))))
abbrev TyRoleSession : Ty := (.pair .str (.pair .str (.pair (.list .str) (.pair (.list TyRoleGrant) .bool))))
abbrev DRoleSession : Type := ((List Int) × ((List Int) × ((List (List Int)) × ((List DRoleGrant) × Bool))))
abbrev TyRoleState : Ty := (.pair (.list I64) (.pair (.list TyRoleGrant) (.pair (.list TyRoleSession) I64)))
abbrev DRoleState : Type := ((List Int) × ((List DRoleGrant) × ((List DRoleSession) × Int)))
/-! ## spec.l15Role (56) -/
noncomputable def P_spec_l15Role_0_2 (x1 : (List Int)) : List DRole → Option (DRole × Bool)
  | [] =>
      some ((([] : List Int), [], []), false)
  | e :: rest =>
      bif decide ((e).1 = x1) then
        some ((e), true)
      else
        P_spec_l15Role_0_2 x1 rest
noncomputable def P_spec_l15Role (a0 : DRoleSet) (a1 : (List Int)) : Option (DRole × Bool) :=
  lenOk a0.1 (P_spec_l15Role_0_2 a1 a0.1)
noncomputable def c_spec_l15Role : Ctr := ⟨56, [TyRoleSet, .str], [TyRole, .bool], fun x => P_spec_l15Role x.1 x.2.1⟩
def A_spec_l15Role : List (List Nat × Ann) := [([0, 2], [.keep 0 1, .keep 0 4, .keep 0 9, .keep 0 10, .keep 0 11, .boxd 0 4 TyRole])]
def In_spec_l15Role : List (List Nat × Nat) := []
noncomputable def cs_spec_l15Role : List Ctr := []
noncomputable def F_spec_l15Role (n : Nat) (a0 : DRoleSet) (a1 : (List Int)) : Option (DRole × Bool) := run Tryz.prog A_spec_l15Role In_spec_l15Role (conOf cs_spec_l15Role) Tryz.f56 (Tryz.f56.body.getD .skip) (packT [TyRole, .bool]) n (argsV [TyRoleSet, .str] (a0, a1, ()))
noncomputable abbrev L_spec_l15Role_0_2 (n : Nat) (x1 : (List Int)) (x2 : (List DRole)) (x3 : Int) (x4 : Int) (x5 : DRole) : Option (DRole × Bool) := lam Tryz.prog A_spec_l15Role In_spec_l15Role (conOf cs_spec_l15Role) Tryz.f56 (Tryz.f56.body.getD .skip) (packT [TyRole, .bool]) n [0, 2] [.d .str x1, .ptr 0 4 0, .d (.list TyRole) x2, .d I64 x3, .d I64 x4, .agg (explode TyRole x5)]
theorem F_spec_l15Role_eq (n : Nat) (a0 : DRoleSet) (a1 : (List Int)) : F_spec_l15Role n a0 a1 =
    L_spec_l15Role_0_2 n a1 a0.1 (a0.1.length : Int) 0 (([] : List Int), [], []) := by kernel_rfl
theorem L_spec_l15Role_0_2_eq (n : Nat) (x1 : (List Int)) (x2 : (List DRole)) (x3 : Int) (x4 : Int) (x5 : DRole) : L_spec_l15Role_0_2 (n + 1) x1 x2 x3 x4 x5 =
    bif decide (x4 < x3) then
      bif inB x4 x2.length then
        bif decide ((rd x2 x4 (Ty.dflt TyRole)).1 = x1) then
          some ((rd x2 x4 (Ty.dflt TyRole)), true)
        else
          L_spec_l15Role_0_2 n x1 x2 x3 (IntKind.wrap .i64 (x4 + 1)) x5
      else none
    else
      some ((([] : List Int), [], []), false) := by kernel_rfl
theorem S_spec_l15Role_0_2 {x1 : (List Int)} {x2 : (List DRole)} {x5 : DRole} (hl : x2.length ≤ maxLen) : ∀ (rest : List DRole) (k : Nat) (r : (DRole × Bool)), rest = x2.drop k → P_spec_l15Role_0_2 x1 rest = some r → Ev (fun n => L_spec_l15Role_0_2 n x1 x2 (x2.length : Int) (k : Int) x5) r := by
  intro rest
  induction rest with
  | nil =>
    intro k r hr h
    have hk := drop_nil hr
    rw [P_spec_l15Role_0_2] at h
    refine Ev.step ?_ (fun n => L_spec_l15Role_0_2_eq n x1 x2 (x2.length : Int) (k : Int) x5)
    rw [show decide ((k : Int) < (x2.length : Int)) = false from decide_eq_false (by omega)]
    exact Ev.neg rfl (Ev.ofSome h)
  | cons e rest ih =>
    intro k r hr h
    obtain ⟨hk, hx, hr2⟩ := drop_cons (d := (Ty.dflt TyRole)) hr
    have hw := wrap_succ hl hk
    have ih2 : ∀ (r : (DRole × Bool)), P_spec_l15Role_0_2 x1 rest = some r → Ev (fun n => L_spec_l15Role_0_2 n x1 x2 (x2.length : Int) (IntKind.wrap .i64 ((k : Int) + 1)) x5) r := by
      intro r h; rw [hw]; exact ih (k + 1) r hr2 h
    rw [P_spec_l15Role_0_2] at h
    refine Ev.step ?_ (fun n => L_spec_l15Role_0_2_eq n x1 x2 (x2.length : Int) (k : Int) x5)
    rw [show decide ((k : Int) < (x2.length : Int)) = true from decide_eq_true (by omega), inB_nat2 hk, hx]
    exact Ev.pos rfl (Ev.pos rfl (Ev.ofBif h (fun h => (Ev.ofSome h)) (fun h => (ih2  _ h))))
theorem S_spec_l15Role (a0 : DRoleSet) (a1 : (List Int)) {r : (DRole × Bool)} (h : P_spec_l15Role a0 a1 = some r) : Ev (fun n => F_spec_l15Role n a0 a1) r := by
  rw [P_spec_l15Role] at h
  refine Ev.of_eq ?_ (fun n => F_spec_l15Role_eq n a0 a1)
  exact (Ev.ofLen h fun hl h => S_spec_l15Role_0_2 hl _ (0 : Nat) _ rfl h)
theorem hcs_spec_l15Role : ∀ x ∈ cs_spec_l15Role, CtrOk Tryz.prog x := conOf_nil
theorem ok_spec_l15Role : CtrOk Tryz.prog (c_spec_l15Role) := by
  refine ctr_of_run (c := c_spec_l15Role) (by kernel_rfl) (by kernel_rfl : Tryz.prog.funcs[56]? = some Tryz.f56) (code := Tryz.f56.body.getD .skip) (by kernel_rfl) (by kernel_rfl) (by kernel_rfl) (A := A_spec_l15Role) (I := In_spec_l15Role) (hcs_spec_l15Role) ?_
  rintro ⟨a0, a1, u⟩ y hy
  exact (S_spec_l15Role a0 a1 hy).get

/-! ## spec.l1CmpNum (74) -/
noncomputable def T_spec_l1CmpNum (a0 : Int) (a1 : Int) : Int :=
  bif decide (a0 < a1) then
    (-1)
  else
    bif decide (a1 < a0) then
      1
    else
      0
noncomputable def c_spec_l1CmpNum : Ctr := ⟨74, [I64, I64], [I64], fun x => some (T_spec_l1CmpNum x.1 x.2.1)⟩
def A_spec_l1CmpNum : List (List Nat × Ann) := []
def In_spec_l1CmpNum : List (List Nat × Nat) := []
noncomputable def cs_spec_l1CmpNum : List Ctr := []
noncomputable def F_spec_l1CmpNum (n : Nat) (a0 : Int) (a1 : Int) : Option Int := run Tryz.prog A_spec_l1CmpNum In_spec_l1CmpNum (conOf cs_spec_l1CmpNum) Tryz.f74 (Tryz.f74.body.getD .skip) (packT [I64]) n (argsV [I64, I64] (a0, a1, ()))
theorem F_spec_l1CmpNum_eq (n : Nat) (a0 : Int) (a1 : Int) : F_spec_l1CmpNum n a0 a1 =
    bif decide (a0 < a1) then
      some (-1)
    else
      bif decide (a1 < a0) then
        some 1
      else
        some 0 := by kernel_rfl
theorem S_spec_l1CmpNum (n : Nat) (a0 : Int) (a1 : Int) : F_spec_l1CmpNum n a0 a1 = some (T_spec_l1CmpNum a0 a1) := (F_spec_l1CmpNum_eq n a0 a1).trans (cond_some rfl (cond_some rfl rfl))
theorem hcs_spec_l1CmpNum : ∀ x ∈ cs_spec_l1CmpNum, CtrOk Tryz.prog x := conOf_nil
theorem ok_spec_l1CmpNum : CtrOk Tryz.prog (c_spec_l1CmpNum) := by
  refine ctr_of_run (c := c_spec_l1CmpNum) (by kernel_rfl) (by kernel_rfl : Tryz.prog.funcs[74]? = some Tryz.f74) (code := Tryz.f74.body.getD .skip) (by kernel_rfl) (by kernel_rfl) (by kernel_rfl) (A := A_spec_l1CmpNum) (I := In_spec_l1CmpNum) (hcs_spec_l1CmpNum) ?_
  rintro ⟨a0, a1, u⟩ y hy
  exact ⟨0, (S_spec_l1CmpNum 0 a0 a1).trans hy⟩

/-! ## spec.l1CmpText (52) -/
noncomputable def P_spec_l1CmpText_0_2 (x1 : (List Int)) (x2 : (List Int)) : List Int → Nat → Option Int
  | [], k =>
      some (T_spec_l1CmpNum (x1.length : Int) (x2.length : Int))
  | e :: rest, k =>
      bif decide ((k : Int) < (x2.length : Int)) then
        bif inB (k : Int) x2.length then
          bif !decide (e = rd x2 (k : Int) 0) then
            bif inB (k : Int) x2.length then
              some (T_spec_l1CmpNum (IntKind.wrap .i64 (e)) (IntKind.wrap .i64 (rd x2 (k : Int) 0)))
            else none
          else
            P_spec_l1CmpText_0_2 x1 x2 rest (k + 1)
        else none
      else
        some (T_spec_l1CmpNum (x1.length : Int) (x2.length : Int))
noncomputable def P_spec_l1CmpText (a0 : (List Int)) (a1 : (List Int)) : Option Int :=
  lenOk a0 (P_spec_l1CmpText_0_2 a0 a1 a0 0)
noncomputable def c_spec_l1CmpText : Ctr := ⟨52, [.str, .str], [I64], fun x => P_spec_l1CmpText x.1 x.2.1⟩
def A_spec_l1CmpText : List (List Nat × Ann) := [([0, 2], [.keep 0 0, .keep 0 1, .keep 0 5])]
def In_spec_l1CmpText : List (List Nat × Nat) := []
noncomputable def cs_spec_l1CmpText : List Ctr := [c_spec_l1CmpNum]
noncomputable def F_spec_l1CmpText (n : Nat) (a0 : (List Int)) (a1 : (List Int)) : Option Int := run Tryz.prog A_spec_l1CmpText In_spec_l1CmpText (conOf cs_spec_l1CmpText) Tryz.f52 (Tryz.f52.body.getD .skip) (packT [I64]) n (argsV [.str, .str] (a0, a1, ()))
noncomputable abbrev L_spec_l1CmpText_0_2 (n : Nat) (x1 : (List Int)) (x2 : (List Int)) (x3 : Int) : Option Int := lam Tryz.prog A_spec_l1CmpText In_spec_l1CmpText (conOf cs_spec_l1CmpText) Tryz.f52 (Tryz.f52.body.getD .skip) (packT [I64]) n [0, 2] [.d .str x1, .d .str x2, .d I64 x3]
theorem F_spec_l1CmpText_eq (n : Nat) (a0 : (List Int)) (a1 : (List Int)) : F_spec_l1CmpText n a0 a1 =
    L_spec_l1CmpText_0_2 n a0 a1 0 := by kernel_rfl
theorem L_spec_l1CmpText_0_2_eq (n : Nat) (x1 : (List Int)) (x2 : (List Int)) (x3 : Int) : L_spec_l1CmpText_0_2 (n + 1) x1 x2 x3 =
    bif decide (x3 < (x1.length : Int)) then
      bif decide (x3 < (x2.length : Int)) then
        bif inB x3 x1.length then
          bif inB x3 x2.length then
            bif !decide (rd x1 x3 0 = rd x2 x3 0) then
              bif inB x3 x1.length then
                bif inB x3 x2.length then
                  some (T_spec_l1CmpNum (IntKind.wrap .i64 (rd x1 x3 0)) (IntKind.wrap .i64 (rd x2 x3 0)))
                else none
              else none
            else
              L_spec_l1CmpText_0_2 n x1 x2 (IntKind.wrap .i64 (x3 + 1))
          else none
        else none
      else
        some (T_spec_l1CmpNum (x1.length : Int) (x2.length : Int))
    else
      some (T_spec_l1CmpNum (x1.length : Int) (x2.length : Int)) := by kernel_rfl
theorem S_spec_l1CmpText_0_2 {x1 : (List Int)} {x2 : (List Int)} (hl : x1.length ≤ maxLen) : ∀ (rest : List Int) (k : Nat) (r : Int), rest = x1.drop k → P_spec_l1CmpText_0_2 x1 x2 rest k = some r → Ev (fun n => L_spec_l1CmpText_0_2 n x1 x2 (k : Int)) r := by
  intro rest
  induction rest with
  | nil =>
    intro k r hr h
    have hk := drop_nil hr
    rw [P_spec_l1CmpText_0_2] at h
    refine Ev.step ?_ (fun n => L_spec_l1CmpText_0_2_eq n x1 x2 (k : Int))
    rw [show decide ((k : Int) < (x1.length : Int)) = false from decide_eq_false (by omega)]
    exact Ev.neg rfl (Ev.ofSome h)
  | cons e rest ih =>
    intro k r hr h
    obtain ⟨hk, hx, hr2⟩ := drop_cons (d := 0) hr
    have hw := wrap_succ hl hk
    have ih2 : ∀ (r : Int), P_spec_l1CmpText_0_2 x1 x2 rest (k + 1) = some r → Ev (fun n => L_spec_l1CmpText_0_2 n x1 x2 (IntKind.wrap .i64 ((k : Int) + 1))) r := by
      intro r h; rw [hw]; exact ih (k + 1) r hr2 h
    rw [P_spec_l1CmpText_0_2] at h
    refine Ev.step ?_ (fun n => L_spec_l1CmpText_0_2_eq n x1 x2 (k : Int))
    rw [show decide ((k : Int) < (x1.length : Int)) = true from decide_eq_true (by omega), inB_nat2 hk, hx]
    exact Ev.pos rfl (Ev.ofBif h (fun h => (Ev.pos rfl (Ev.ofBif h (fun h => (Ev.ofBif h (fun h => (Ev.pos rfl (Ev.ofBif h (fun h => (Ev.ofSome h)) (fun h => (Ev.ofNone h))))) (fun h => (ih2  _ h)))) (fun h => (Ev.ofNone h))))) (fun h => (Ev.ofSome h)))
theorem S_spec_l1CmpText (a0 : (List Int)) (a1 : (List Int)) {r : Int} (h : P_spec_l1CmpText a0 a1 = some r) : Ev (fun n => F_spec_l1CmpText n a0 a1) r := by
  rw [P_spec_l1CmpText] at h
  refine Ev.of_eq ?_ (fun n => F_spec_l1CmpText_eq n a0 a1)
  exact (Ev.ofLen h fun hl h => S_spec_l1CmpText_0_2 hl _ (0 : Nat) _ rfl h)
theorem hcs_spec_l1CmpText : ∀ x ∈ cs_spec_l1CmpText, CtrOk Tryz.prog x := (conOf_cons ok_spec_l1CmpNum conOf_nil)
theorem ok_spec_l1CmpText : CtrOk Tryz.prog (c_spec_l1CmpText) := by
  refine ctr_of_run (c := c_spec_l1CmpText) (by kernel_rfl) (by kernel_rfl : Tryz.prog.funcs[52]? = some Tryz.f52) (code := Tryz.f52.body.getD .skip) (by kernel_rfl) (by kernel_rfl) (by kernel_rfl) (A := A_spec_l1CmpText) (I := In_spec_l1CmpText) (hcs_spec_l1CmpText) ?_
  rintro ⟨a0, a1, u⟩ y hy
  exact (S_spec_l1CmpText a0 a1 hy).get

/-! ## spec.l3Rising (53) -/
noncomputable def P_spec_l3Rising_0_2 (x1 : (List (List Int))) : List (List Int) → Nat → Option Bool
  | [], k =>
      some true
  | e :: rest, k =>
      bif inB (IntKind.wrap .i64 ((k : Int) - 1)) x1.length then
        Option.bind (P_spec_l1CmpText (rd x1 (IntKind.wrap .i64 ((k : Int) - 1)) (Ty.dflt .str)) (e)) fun (y1 : Int) =>
        bif decide ((0 : Int) ≤ y1) then
          some false
        else
          P_spec_l3Rising_0_2 x1 rest (k + 1)
      else none
noncomputable def P_spec_l3Rising (a0 : (List (List Int))) : Option Bool :=
  lenOk a0 (P_spec_l3Rising_0_2 a0 (a0.drop 1) 1)
noncomputable def c_spec_l3Rising : Ctr := ⟨53, [(.list .str)], [.bool], fun x => P_spec_l3Rising x.1⟩
def A_spec_l3Rising : List (List Nat × Ann) := [([0, 2], [.keep 0 0, .keep 0 3])]
def In_spec_l3Rising : List (List Nat × Nat) := []
noncomputable def cs_spec_l3Rising : List Ctr := [c_spec_l1CmpText]
noncomputable def F_spec_l3Rising (n : Nat) (a0 : (List (List Int))) : Option Bool := run Tryz.prog A_spec_l3Rising In_spec_l3Rising (conOf cs_spec_l3Rising) Tryz.f53 (Tryz.f53.body.getD .skip) (packT [.bool]) n (argsV [(.list .str)] (a0, ()))
noncomputable abbrev L_spec_l3Rising_0_2 (n : Nat) (x1 : (List (List Int))) (x2 : Int) : Option Bool := lam Tryz.prog A_spec_l3Rising In_spec_l3Rising (conOf cs_spec_l3Rising) Tryz.f53 (Tryz.f53.body.getD .skip) (packT [.bool]) n [0, 2] [.d (.list .str) x1, .d I64 x2]
theorem F_spec_l3Rising_eq (n : Nat) (a0 : (List (List Int))) : F_spec_l3Rising n a0 =
    L_spec_l3Rising_0_2 n a0 1 := by kernel_rfl
theorem L_spec_l3Rising_0_2_eq (n : Nat) (x1 : (List (List Int))) (x2 : Int) : L_spec_l3Rising_0_2 (n + 1) x1 x2 =
    bif decide (x2 < (x1.length : Int)) then
      bif inB (IntKind.wrap .i64 (x2 - 1)) x1.length then
        bif inB x2 x1.length then
          Option.bind (P_spec_l1CmpText (rd x1 (IntKind.wrap .i64 (x2 - 1)) (Ty.dflt .str)) (rd x1 x2 (Ty.dflt .str))) fun (y1 : Int) =>
          bif decide ((0 : Int) ≤ y1) then
            some false
          else
            L_spec_l3Rising_0_2 n x1 (IntKind.wrap .i64 (x2 + 1))
        else none
      else none
    else
      some true := by kernel_rfl
theorem S_spec_l3Rising_0_2 {x1 : (List (List Int))} (hl : x1.length ≤ maxLen) : ∀ (rest : List (List Int)) (k : Nat) (r : Bool), rest = x1.drop k → P_spec_l3Rising_0_2 x1 rest k = some r → Ev (fun n => L_spec_l3Rising_0_2 n x1 (k : Int)) r := by
  intro rest
  induction rest with
  | nil =>
    intro k r hr h
    have hk := drop_nil hr
    rw [P_spec_l3Rising_0_2] at h
    refine Ev.step ?_ (fun n => L_spec_l3Rising_0_2_eq n x1 (k : Int))
    rw [show decide ((k : Int) < (x1.length : Int)) = false from decide_eq_false (by omega)]
    exact Ev.neg rfl (Ev.ofSome h)
  | cons e rest ih =>
    intro k r hr h
    obtain ⟨hk, hx, hr2⟩ := drop_cons (d := (Ty.dflt .str)) hr
    have hw := wrap_succ hl hk
    have ih2 : ∀ (r : Bool), P_spec_l3Rising_0_2 x1 rest (k + 1) = some r → Ev (fun n => L_spec_l3Rising_0_2 n x1 (IntKind.wrap .i64 ((k : Int) + 1))) r := by
      intro r h; rw [hw]; exact ih (k + 1) r hr2 h
    rw [P_spec_l3Rising_0_2] at h
    refine Ev.step ?_ (fun n => L_spec_l3Rising_0_2_eq n x1 (k : Int))
    rw [show decide ((k : Int) < (x1.length : Int)) = true from decide_eq_true (by omega), inB_nat2 hk, hx]
    exact Ev.pos rfl (Ev.ofBif h (fun h => (Ev.pos rfl (Ev.ofBind h fun y1 h => (Ev.ofBif h (fun h => (Ev.ofSome h)) (fun h => (ih2  _ h)))))) (fun h => (Ev.ofNone h)))
theorem S_spec_l3Rising (a0 : (List (List Int))) {r : Bool} (h : P_spec_l3Rising a0 = some r) : Ev (fun n => F_spec_l3Rising n a0) r := by
  rw [P_spec_l3Rising] at h
  refine Ev.of_eq ?_ (fun n => F_spec_l3Rising_eq n a0)
  exact (Ev.ofLen h fun hl h => S_spec_l3Rising_0_2 hl _ (1 : Nat) _ rfl h)
theorem hcs_spec_l3Rising : ∀ x ∈ cs_spec_l3Rising, CtrOk Tryz.prog x := (conOf_cons ok_spec_l1CmpText conOf_nil)
theorem ok_spec_l3Rising : CtrOk Tryz.prog (c_spec_l3Rising) := by
  refine ctr_of_run (c := c_spec_l3Rising) (by kernel_rfl) (by kernel_rfl : Tryz.prog.funcs[53]? = some Tryz.f53) (code := Tryz.f53.body.getD .skip) (by kernel_rfl) (by kernel_rfl) (by kernel_rfl) (A := A_spec_l3Rising) (I := In_spec_l3Rising) (hcs_spec_l3Rising) ?_
  rintro ⟨a0, u⟩ y hy
  exact (S_spec_l3Rising a0 hy).get

/-! ## spec.l15All (50) -/
noncomputable def P_spec_l15All_0_2 (x1 : (List (List Int))) (x5 : DRoleSet) : List (List Int) → Option Bool
  | [] =>
      Option.bind (P_spec_l3Rising x1) fun (y2 : Bool) =>
      some y2
  | e :: rest =>
      Option.bind (P_spec_l15Role x5 (e)) fun (y1 : (DRole × Bool)) =>
      bif !(y1.2) then
        some false
      else
        P_spec_l15All_0_2 x1 x5 rest
noncomputable def P_spec_l15All (a0 : DRoleSet) (a1 : (List (List Int))) : Option Bool :=
  lenOk a1 (P_spec_l15All_0_2 a1 a0 a1)
noncomputable def c_spec_l15All : Ctr := ⟨50, [TyRoleSet, (.list .str)], [.bool], fun x => P_spec_l15All x.1 x.2.1⟩
def A_spec_l15All : List (List Nat × Ann) := [([0, 2], [.keep 0 1, .keep 0 2, .keep 0 9, .keep 0 10, .keep 0 11, .boxd 0 2 TyRoleSet])]
def In_spec_l15All : List (List Nat × Nat) := []
noncomputable def cs_spec_l15All : List Ctr := [c_spec_l15Role, c_spec_l3Rising]
noncomputable def F_spec_l15All (n : Nat) (a0 : DRoleSet) (a1 : (List (List Int))) : Option Bool := run Tryz.prog A_spec_l15All In_spec_l15All (conOf cs_spec_l15All) Tryz.f50 (Tryz.f50.body.getD .skip) (packT [.bool]) n (argsV [TyRoleSet, (.list .str)] (a0, a1, ()))
noncomputable abbrev L_spec_l15All_0_2 (n : Nat) (x1 : (List (List Int))) (x2 : (List (List Int))) (x3 : Int) (x4 : Int) (x5 : DRoleSet) : Option Bool := lam Tryz.prog A_spec_l15All In_spec_l15All (conOf cs_spec_l15All) Tryz.f50 (Tryz.f50.body.getD .skip) (packT [.bool]) n [0, 2] [.d (.list .str) x1, .ptr 0 2 0, .d (.list .str) x2, .d I64 x3, .d I64 x4, .agg (explode TyRoleSet x5)]
theorem F_spec_l15All_eq (n : Nat) (a0 : DRoleSet) (a1 : (List (List Int))) : F_spec_l15All n a0 a1 =
    L_spec_l15All_0_2 n a1 a1 (a1.length : Int) 0 a0 := by kernel_rfl
theorem L_spec_l15All_0_2_eq (n : Nat) (x1 : (List (List Int))) (x2 : (List (List Int))) (x3 : Int) (x4 : Int) (x5 : DRoleSet) : L_spec_l15All_0_2 (n + 1) x1 x2 x3 x4 x5 =
    bif decide (x4 < x3) then
      bif inB x4 x2.length then
        Option.bind (P_spec_l15Role x5 (rd x2 x4 (Ty.dflt .str))) fun (y1 : (DRole × Bool)) =>
        bif !(y1.2) then
          some false
        else
          L_spec_l15All_0_2 n x1 x2 x3 (IntKind.wrap .i64 (x4 + 1)) x5
      else none
    else
      Option.bind (P_spec_l3Rising x1) fun (y2 : Bool) =>
      some y2 := by kernel_rfl
theorem S_spec_l15All_0_2 {x1 : (List (List Int))} {x5 : DRoleSet} (hl : x1.length ≤ maxLen) : ∀ (rest : List (List Int)) (k : Nat) (r : Bool), rest = x1.drop k → P_spec_l15All_0_2 x1 x5 rest = some r → Ev (fun n => L_spec_l15All_0_2 n x1 x1 (x1.length : Int) (k : Int) x5) r := by
  intro rest
  induction rest with
  | nil =>
    intro k r hr h
    have hk := drop_nil hr
    rw [P_spec_l15All_0_2] at h
    refine Ev.step ?_ (fun n => L_spec_l15All_0_2_eq n x1 x1 (x1.length : Int) (k : Int) x5)
    rw [show decide ((k : Int) < (x1.length : Int)) = false from decide_eq_false (by omega)]
    exact Ev.neg rfl (Ev.ofBind h fun y2 h => (Ev.ofSome h))
  | cons e rest ih =>
    intro k r hr h
    obtain ⟨hk, hx, hr2⟩ := drop_cons (d := (Ty.dflt .str)) hr
    have hw := wrap_succ hl hk
    have ih2 : ∀ (r : Bool), P_spec_l15All_0_2 x1 x5 rest = some r → Ev (fun n => L_spec_l15All_0_2 n x1 x1 (x1.length : Int) (IntKind.wrap .i64 ((k : Int) + 1)) x5) r := by
      intro r h; rw [hw]; exact ih (k + 1) r hr2 h
    rw [P_spec_l15All_0_2] at h
    refine Ev.step ?_ (fun n => L_spec_l15All_0_2_eq n x1 x1 (x1.length : Int) (k : Int) x5)
    rw [show decide ((k : Int) < (x1.length : Int)) = true from decide_eq_true (by omega), inB_nat2 hk, hx]
    exact Ev.pos rfl (Ev.pos rfl (Ev.ofBind h fun y1 h => (Ev.ofBif h (fun h => (Ev.ofSome h)) (fun h => (ih2  _ h)))))
theorem S_spec_l15All (a0 : DRoleSet) (a1 : (List (List Int))) {r : Bool} (h : P_spec_l15All a0 a1 = some r) : Ev (fun n => F_spec_l15All n a0 a1) r := by
  rw [P_spec_l15All] at h
  refine Ev.of_eq ?_ (fun n => F_spec_l15All_eq n a0 a1)
  exact (Ev.ofLen h fun hl h => S_spec_l15All_0_2 hl _ (0 : Nat) _ rfl h)
theorem hcs_spec_l15All : ∀ x ∈ cs_spec_l15All, CtrOk Tryz.prog x := (conOf_cons ok_spec_l15Role (conOf_cons ok_spec_l3Rising conOf_nil))
theorem ok_spec_l15All : CtrOk Tryz.prog (c_spec_l15All) := by
  refine ctr_of_run (c := c_spec_l15All) (by kernel_rfl) (by kernel_rfl : Tryz.prog.funcs[50]? = some Tryz.f50) (code := Tryz.f50.body.getD .skip) (by kernel_rfl) (by kernel_rfl) (by kernel_rfl) (A := A_spec_l15All) (I := In_spec_l15All) (hcs_spec_l15All) ?_
  rintro ⟨a0, a1, u⟩ y hy
  exact (S_spec_l15All a0 a1 hy).get

/-! ## spec.l1Digit (72) -/
noncomputable def T_spec_l1Digit (a0 : Int) : Bool :=
  bif decide ((48 : Int) ≤ a0) then
    decide (a0 ≤ 57)
  else
    false
noncomputable def c_spec_l1Digit : Ctr := ⟨72, [U8], [.bool], fun x => some (T_spec_l1Digit x.1)⟩
def A_spec_l1Digit : List (List Nat × Ann) := []
def In_spec_l1Digit : List (List Nat × Nat) := []
noncomputable def cs_spec_l1Digit : List Ctr := []
noncomputable def F_spec_l1Digit (n : Nat) (a0 : Int) : Option Bool := run Tryz.prog A_spec_l1Digit In_spec_l1Digit (conOf cs_spec_l1Digit) Tryz.f72 (Tryz.f72.body.getD .skip) (packT [.bool]) n (argsV [U8] (a0, ()))
theorem F_spec_l1Digit_eq (n : Nat) (a0 : Int) : F_spec_l1Digit n a0 =
    bif decide ((48 : Int) ≤ a0) then
      some (decide (a0 ≤ 57))
    else
      some false := by kernel_rfl
theorem S_spec_l1Digit (n : Nat) (a0 : Int) : F_spec_l1Digit n a0 = some (T_spec_l1Digit a0) := (F_spec_l1Digit_eq n a0).trans (cond_some rfl rfl)
theorem hcs_spec_l1Digit : ∀ x ∈ cs_spec_l1Digit, CtrOk Tryz.prog x := conOf_nil
theorem ok_spec_l1Digit : CtrOk Tryz.prog (c_spec_l1Digit) := by
  refine ctr_of_run (c := c_spec_l1Digit) (by kernel_rfl) (by kernel_rfl : Tryz.prog.funcs[72]? = some Tryz.f72) (code := Tryz.f72.body.getD .skip) (by kernel_rfl) (by kernel_rfl) (by kernel_rfl) (A := A_spec_l1Digit) (I := In_spec_l1Digit) (hcs_spec_l1Digit) ?_
  rintro ⟨a0, u⟩ y hy
  exact ⟨0, (S_spec_l1Digit 0 a0).trans hy⟩

/-! ## spec.l1Letter (73) -/
noncomputable def T_spec_l1Letter (a0 : Int) : Bool :=
  bif decide ((97 : Int) ≤ a0) then
    bif decide (a0 ≤ 122) then
      true
    else
      bif decide ((65 : Int) ≤ a0) then
        decide (a0 ≤ 90)
      else
        false
  else
    bif decide ((65 : Int) ≤ a0) then
      decide (a0 ≤ 90)
    else
      false
noncomputable def c_spec_l1Letter : Ctr := ⟨73, [U8], [.bool], fun x => some (T_spec_l1Letter x.1)⟩
def A_spec_l1Letter : List (List Nat × Ann) := []
def In_spec_l1Letter : List (List Nat × Nat) := []
noncomputable def cs_spec_l1Letter : List Ctr := []
noncomputable def F_spec_l1Letter (n : Nat) (a0 : Int) : Option Bool := run Tryz.prog A_spec_l1Letter In_spec_l1Letter (conOf cs_spec_l1Letter) Tryz.f73 (Tryz.f73.body.getD .skip) (packT [.bool]) n (argsV [U8] (a0, ()))
theorem F_spec_l1Letter_eq (n : Nat) (a0 : Int) : F_spec_l1Letter n a0 =
    bif decide ((97 : Int) ≤ a0) then
      bif decide (a0 ≤ 122) then
        some true
      else
        bif decide ((65 : Int) ≤ a0) then
          some (decide (a0 ≤ 90))
        else
          some false
    else
      bif decide ((65 : Int) ≤ a0) then
        some (decide (a0 ≤ 90))
      else
        some false := by kernel_rfl
theorem S_spec_l1Letter (n : Nat) (a0 : Int) : F_spec_l1Letter n a0 = some (T_spec_l1Letter a0) := (F_spec_l1Letter_eq n a0).trans (cond_some (cond_some rfl (cond_some rfl rfl)) (cond_some rfl rfl))
theorem hcs_spec_l1Letter : ∀ x ∈ cs_spec_l1Letter, CtrOk Tryz.prog x := conOf_nil
theorem ok_spec_l1Letter : CtrOk Tryz.prog (c_spec_l1Letter) := by
  refine ctr_of_run (c := c_spec_l1Letter) (by kernel_rfl) (by kernel_rfl : Tryz.prog.funcs[73]? = some Tryz.f73) (code := Tryz.f73.body.getD .skip) (by kernel_rfl) (by kernel_rfl) (by kernel_rfl) (A := A_spec_l1Letter) (I := In_spec_l1Letter) (hcs_spec_l1Letter) ?_
  rintro ⟨a0, u⟩ y hy
  exact ⟨0, (S_spec_l1Letter 0 a0).trans hy⟩

/-! ## spec.GoodName (51) -/
noncomputable def P_spec_GoodName_0_4 : List Int → Option Bool
  | [] =>
      some true
  | e :: rest =>
      bif !(T_spec_l1Letter (e)) then
        bif !(T_spec_l1Digit (e)) then
          bif !decide (e = 95) then
            some false
          else
            P_spec_GoodName_0_4 rest
        else
          P_spec_GoodName_0_4 rest
      else
        P_spec_GoodName_0_4 rest
noncomputable def P_spec_GoodName (a0 : (List Int)) : Option Bool :=
  bif decide ((a0.length : Int) < 1) then
    some false
  else
    bif decide ((30 : Int) < (a0.length : Int)) then
      some false
    else
      bif inB 0 a0.length then
        bif T_spec_l1Digit (rd a0 0 0) then
          some false
        else
          lenOk a0 (P_spec_GoodName_0_4 a0)
      else none
noncomputable def c_spec_GoodName : Ctr := ⟨51, [.str], [.bool], fun x => P_spec_GoodName x.1⟩
def A_spec_GoodName : List (List Nat × Ann) := [([0, 4], [.keep 0 0, .keep 0 3])]
def In_spec_GoodName : List (List Nat × Nat) := []
noncomputable def cs_spec_GoodName : List Ctr := [c_spec_l1Digit, c_spec_l1Letter]
noncomputable def F_spec_GoodName (n : Nat) (a0 : (List Int)) : Option Bool := run Tryz.prog A_spec_GoodName In_spec_GoodName (conOf cs_spec_GoodName) Tryz.f51 (Tryz.f51.body.getD .skip) (packT [.bool]) n (argsV [.str] (a0, ()))
noncomputable abbrev L_spec_GoodName_0_4 (n : Nat) (x1 : (List Int)) (x2 : Int) : Option Bool := lam Tryz.prog A_spec_GoodName In_spec_GoodName (conOf cs_spec_GoodName) Tryz.f51 (Tryz.f51.body.getD .skip) (packT [.bool]) n [0, 4] [.d .str x1, .d I64 x2]
theorem F_spec_GoodName_eq (n : Nat) (a0 : (List Int)) : F_spec_GoodName n a0 =
    bif decide ((a0.length : Int) < 1) then
      some false
    else
      bif decide ((30 : Int) < (a0.length : Int)) then
        some false
      else
        bif inB 0 a0.length then
          bif T_spec_l1Digit (rd a0 0 0) then
            some false
          else
            L_spec_GoodName_0_4 n a0 0
        else none := by kernel_rfl
theorem L_spec_GoodName_0_4_eq (n : Nat) (x1 : (List Int)) (x2 : Int) : L_spec_GoodName_0_4 (n + 1) x1 x2 =
    bif decide (x2 < (x1.length : Int)) then
      bif inB x2 x1.length then
        bif !(T_spec_l1Letter (rd x1 x2 0)) then
          bif inB x2 x1.length then
            bif !(T_spec_l1Digit (rd x1 x2 0)) then
              bif inB x2 x1.length then
                bif !decide (rd x1 x2 0 = 95) then
                  some false
                else
                  L_spec_GoodName_0_4 n x1 (IntKind.wrap .i64 (x2 + 1))
              else none
            else
              L_spec_GoodName_0_4 n x1 (IntKind.wrap .i64 (x2 + 1))
          else none
        else
          L_spec_GoodName_0_4 n x1 (IntKind.wrap .i64 (x2 + 1))
      else none
    else
      some true := by kernel_rfl
theorem S_spec_GoodName_0_4 {x1 : (List Int)} (hl : x1.length ≤ maxLen) : ∀ (rest : List Int) (k : Nat) (r : Bool), rest = x1.drop k → P_spec_GoodName_0_4 rest = some r → Ev (fun n => L_spec_GoodName_0_4 n x1 (k : Int)) r := by
  intro rest
  induction rest with
  | nil =>
    intro k r hr h
    have hk := drop_nil hr
    rw [P_spec_GoodName_0_4] at h
    refine Ev.step ?_ (fun n => L_spec_GoodName_0_4_eq n x1 (k : Int))
    rw [show decide ((k : Int) < (x1.length : Int)) = false from decide_eq_false (by omega)]
    exact Ev.neg rfl (Ev.ofSome h)
  | cons e rest ih =>
    intro k r hr h
    obtain ⟨hk, hx, hr2⟩ := drop_cons (d := 0) hr
    have hw := wrap_succ hl hk
    have ih2 : ∀ (r : Bool), P_spec_GoodName_0_4 rest = some r → Ev (fun n => L_spec_GoodName_0_4 n x1 (IntKind.wrap .i64 ((k : Int) + 1))) r := by
      intro r h; rw [hw]; exact ih (k + 1) r hr2 h
    rw [P_spec_GoodName_0_4] at h
    refine Ev.step ?_ (fun n => L_spec_GoodName_0_4_eq n x1 (k : Int))
    rw [show decide ((k : Int) < (x1.length : Int)) = true from decide_eq_true (by omega), inB_nat2 hk, hx]
    exact Ev.pos rfl (Ev.pos rfl (Ev.ofBif h (fun h => (Ev.pos rfl (Ev.ofBif h (fun h => (Ev.pos rfl (Ev.ofBif h (fun h => (Ev.ofSome h)) (fun h => (ih2  _ h))))) (fun h => (ih2  _ h))))) (fun h => (ih2  _ h))))
theorem S_spec_GoodName (a0 : (List Int)) {r : Bool} (h : P_spec_GoodName a0 = some r) : Ev (fun n => F_spec_GoodName n a0) r := by
  rw [P_spec_GoodName] at h
  refine Ev.of_eq ?_ (fun n => F_spec_GoodName_eq n a0)
  exact (Ev.ofBif h (fun h => (Ev.ofSome h)) (fun h => (Ev.ofBif h (fun h => (Ev.ofSome h)) (fun h => (Ev.ofBif h (fun h => (Ev.ofBif h (fun h => (Ev.ofSome h)) (fun h => (Ev.ofLen h fun hl h => S_spec_GoodName_0_4 hl _ (0 : Nat) _ rfl h)))) (fun h => (Ev.ofNone h)))))))
theorem hcs_spec_GoodName : ∀ x ∈ cs_spec_GoodName, CtrOk Tryz.prog x := (conOf_cons ok_spec_l1Digit (conOf_cons ok_spec_l1Letter conOf_nil))
theorem ok_spec_GoodName : CtrOk Tryz.prog (c_spec_GoodName) := by
  refine ctr_of_run (c := c_spec_GoodName) (by kernel_rfl) (by kernel_rfl : Tryz.prog.funcs[51]? = some Tryz.f51) (code := Tryz.f51.body.getD .skip) (by kernel_rfl) (by kernel_rfl) (by kernel_rfl) (A := A_spec_GoodName) (I := In_spec_GoodName) (hcs_spec_GoodName) ?_
  rintro ⟨a0, u⟩ y hy
  exact (S_spec_GoodName a0 hy).get

/-! ## spec.l3Has (54) -/
noncomputable def P_spec_l3Has_0_2 (x1 : (List Int)) : List (List Int) → Option Bool
  | [] =>
      some false
  | e :: rest =>
      bif decide (e = x1) then
        some true
      else
        P_spec_l3Has_0_2 x1 rest
noncomputable def P_spec_l3Has (a0 : (List (List Int))) (a1 : (List Int)) : Option Bool :=
  lenOk a0 (P_spec_l3Has_0_2 a1 a0)
noncomputable def c_spec_l3Has : Ctr := ⟨54, [(.list .str), .str], [.bool], fun x => P_spec_l3Has x.1 x.2.1⟩
def A_spec_l3Has : List (List Nat × Ann) := [([0, 2], [.keep 0 1, .keep 0 7, .keep 0 8, .keep 0 9])]
def In_spec_l3Has : List (List Nat × Nat) := []
noncomputable def cs_spec_l3Has : List Ctr := []
noncomputable def F_spec_l3Has (n : Nat) (a0 : (List (List Int))) (a1 : (List Int)) : Option Bool := run Tryz.prog A_spec_l3Has In_spec_l3Has (conOf cs_spec_l3Has) Tryz.f54 (Tryz.f54.body.getD .skip) (packT [.bool]) n (argsV [(.list .str), .str] (a0, a1, ()))
noncomputable abbrev L_spec_l3Has_0_2 (n : Nat) (x1 : (List Int)) (x2 : (List (List Int))) (x3 : Int) (x4 : Int) : Option Bool := lam Tryz.prog A_spec_l3Has In_spec_l3Has (conOf cs_spec_l3Has) Tryz.f54 (Tryz.f54.body.getD .skip) (packT [.bool]) n [0, 2] [.d .str x1, .d (.list .str) x2, .d I64 x3, .d I64 x4]
theorem F_spec_l3Has_eq (n : Nat) (a0 : (List (List Int))) (a1 : (List Int)) : F_spec_l3Has n a0 a1 =
    L_spec_l3Has_0_2 n a1 a0 (a0.length : Int) 0 := by kernel_rfl
theorem L_spec_l3Has_0_2_eq (n : Nat) (x1 : (List Int)) (x2 : (List (List Int))) (x3 : Int) (x4 : Int) : L_spec_l3Has_0_2 (n + 1) x1 x2 x3 x4 =
    bif decide (x4 < x3) then
      bif inB x4 x2.length then
        bif decide (rd x2 x4 (Ty.dflt .str) = x1) then
          some true
        else
          L_spec_l3Has_0_2 n x1 x2 x3 (IntKind.wrap .i64 (x4 + 1))
      else none
    else
      some false := by kernel_rfl
theorem S_spec_l3Has_0_2 {x1 : (List Int)} {x2 : (List (List Int))} (hl : x2.length ≤ maxLen) : ∀ (rest : List (List Int)) (k : Nat) (r : Bool), rest = x2.drop k → P_spec_l3Has_0_2 x1 rest = some r → Ev (fun n => L_spec_l3Has_0_2 n x1 x2 (x2.length : Int) (k : Int)) r := by
  intro rest
  induction rest with
  | nil =>
    intro k r hr h
    have hk := drop_nil hr
    rw [P_spec_l3Has_0_2] at h
    refine Ev.step ?_ (fun n => L_spec_l3Has_0_2_eq n x1 x2 (x2.length : Int) (k : Int))
    rw [show decide ((k : Int) < (x2.length : Int)) = false from decide_eq_false (by omega)]
    exact Ev.neg rfl (Ev.ofSome h)
  | cons e rest ih =>
    intro k r hr h
    obtain ⟨hk, hx, hr2⟩ := drop_cons (d := (Ty.dflt .str)) hr
    have hw := wrap_succ hl hk
    have ih2 : ∀ (r : Bool), P_spec_l3Has_0_2 x1 rest = some r → Ev (fun n => L_spec_l3Has_0_2 n x1 x2 (x2.length : Int) (IntKind.wrap .i64 ((k : Int) + 1))) r := by
      intro r h; rw [hw]; exact ih (k + 1) r hr2 h
    rw [P_spec_l3Has_0_2] at h
    refine Ev.step ?_ (fun n => L_spec_l3Has_0_2_eq n x1 x2 (x2.length : Int) (k : Int))
    rw [show decide ((k : Int) < (x2.length : Int)) = true from decide_eq_true (by omega), inB_nat2 hk, hx]
    exact Ev.pos rfl (Ev.pos rfl (Ev.ofBif h (fun h => (Ev.ofSome h)) (fun h => (ih2  _ h))))
theorem S_spec_l3Has (a0 : (List (List Int))) (a1 : (List Int)) {r : Bool} (h : P_spec_l3Has a0 a1 = some r) : Ev (fun n => F_spec_l3Has n a0 a1) r := by
  rw [P_spec_l3Has] at h
  refine Ev.of_eq ?_ (fun n => F_spec_l3Has_eq n a0 a1)
  exact (Ev.ofLen h fun hl h => S_spec_l3Has_0_2 hl _ (0 : Nat) _ rfl h)
theorem hcs_spec_l3Has : ∀ x ∈ cs_spec_l3Has, CtrOk Tryz.prog x := conOf_nil
theorem ok_spec_l3Has : CtrOk Tryz.prog (c_spec_l3Has) := by
  refine ctr_of_run (c := c_spec_l3Has) (by kernel_rfl) (by kernel_rfl : Tryz.prog.funcs[54]? = some Tryz.f54) (code := Tryz.f54.body.getD .skip) (by kernel_rfl) (by kernel_rfl) (by kernel_rfl) (A := A_spec_l3Has) (I := In_spec_l3Has) (hcs_spec_l3Has) ?_
  rintro ⟨a0, a1, u⟩ y hy
  exact (S_spec_l3Has a0 a1 hy).get

/-! ## spec.l5Sorted (75) -/
noncomputable def P_spec_l5Sorted_0_11 (K0 : (List (List Int)) → Option (List (List Int))) (x2 : (List Int)) (x3 : Int) : Nat → (List (List Int)) → Int → Option (List (List Int))
  | 0, _, _ => none
  | m + 1, x1, x4 =>
      bif decide (x3 < x4) then
        bif inB (IntKind.wrap .i64 (x4 - 1)) x1.length then
          bif inB (IntKind.wrap .i64 (x4 - 1)) x1.length then
            bif inB x4 x1.length then
              bif inB x4 x1.length && true && true && true && true then
                P_spec_l5Sorted_0_11 K0 x2 x3 m (x1.set (Int.toNat x4) (rd x1 (IntKind.wrap .i64 (x4 - 1)) (Ty.dflt .str))) (IntKind.wrap .i64 (x4 - 1))
              else none
            else none
          else none
        else none
      else
        bif inB x3 x1.length then
          bif inB x3 x1.length && true && true && true && true then
            K0 (x1.set (Int.toNat x3) x2)
          else none
        else none
noncomputable def P_spec_l5Sorted_1_8 (K0 : (List (List Int)) → Option (List (List Int))) (m : Nat) (x1 : (List (List Int))) (x2 : (List Int)) (x3 : Int) : Option (List (List Int)) :=
  bif decide ((0 : Int) < x3) then
    bif inB (IntKind.wrap .i64 (x3 - 1)) x1.length then
      bif inB (IntKind.wrap .i64 (x3 - 1)) x1.length then
        bif decide (rd x1 (IntKind.wrap .i64 (x3 - 1)) (Ty.dflt .str) = x2) then
          K0 x1
        else
          bif decide (((x1.length : Int) + (([x2] : List (List Int)).length : Int)) * 16 ≤ room) && decide ((x1.length : Int) + (([x2] : List (List Int)).length : Int) ≤ room) then
            P_spec_l5Sorted_0_11 K0 x2 x3 m (x1 ++ ([x2] : List (List Int))) (IntKind.wrap .i64 (((x1 ++ ([x2] : List (List Int))).length : Int) - 1))
          else none
      else none
    else none
  else
    bif decide (((x1.length : Int) + (([x2] : List (List Int)).length : Int)) * 16 ≤ room) && decide ((x1.length : Int) + (([x2] : List (List Int)).length : Int) ≤ room) then
      P_spec_l5Sorted_0_11 K0 x2 x3 m (x1 ++ ([x2] : List (List Int))) (IntKind.wrap .i64 (((x1 ++ ([x2] : List (List Int))).length : Int) - 1))
    else none
noncomputable def P_spec_l5Sorted_0_6 (K0 : (List (List Int)) → Option (List (List Int))) (x1 : (List (List Int))) (x2 : (List Int)) : Nat → Int → Option (List (List Int))
  | 0, _ => none
  | m + 1, x3 =>
      bif decide ((0 : Int) < x3) then
        bif inB (IntKind.wrap .i64 (x3 - 1)) x1.length then
          bif inB (IntKind.wrap .i64 (x3 - 1)) x1.length then
            Option.bind (P_spec_l1CmpText (rd x1 (IntKind.wrap .i64 (x3 - 1)) (Ty.dflt .str)) x2) fun (y1 : Int) =>
            bif decide ((0 : Int) < y1) then
              P_spec_l5Sorted_0_6 K0 x1 x2 m (IntKind.wrap .i64 (x3 - 1))
            else
              P_spec_l5Sorted_1_8 K0 m x1 x2 x3
          else none
        else none
      else
        P_spec_l5Sorted_1_8 K0 m x1 x2 x3
noncomputable def P_spec_l5Sorted_0_3 (m : Nat) : List (List Int) → (List (List Int)) → Option (List (List Int))
  | [], x1 =>
      some x1
  | e :: rest, x1 =>
      P_spec_l5Sorted_0_6 (fun s0 => P_spec_l5Sorted_0_3 m rest s0) x1 (e) m (x1.length : Int)
noncomputable def P_spec_l5Sorted (m : Nat) (a0 : (List (List Int))) : Option (List (List Int)) :=
  lenOk a0 (P_spec_l5Sorted_0_3 m a0 [])
noncomputable def E_spec_l5Sorted (a0 : (List (List Int))) : Option (List (List Int)) := evOpt fun m => P_spec_l5Sorted m a0
noncomputable def c_spec_l5Sorted : Ctr := ⟨75, [(.list .str)], [(.list .str)], fun x => E_spec_l5Sorted x.1⟩
def A_spec_l5Sorted : List (List Nat × Ann) := [([0, 3], [.raw 0 3 .str, .keep 0 8, .keep 0 9, .keep 0 10]), ([0, 6], [.raw 0 3 .str, .keep 0 5, .keep 0 6, .keep 0 8, .keep 0 9, .keep 0 10]), ([1, 8], [.raw 0 3 .str, .keep 0 5, .keep 0 6, .keep 0 8, .keep 0 9, .keep 0 10]), ([0, 11], [.raw 0 3 .str, .keep 0 5, .keep 0 6, .keep 0 7, .keep 0 8, .keep 0 9, .keep 0 10])]
def In_spec_l5Sorted : List (List Nat × Nat) := []
noncomputable def cs_spec_l5Sorted : List Ctr := [c_spec_l1CmpText]
noncomputable def F_spec_l5Sorted (n : Nat) (a0 : (List (List Int))) : Option (List (List Int)) := run Tryz.prog A_spec_l5Sorted In_spec_l5Sorted (conOf cs_spec_l5Sorted) Tryz.f75 (Tryz.f75.body.getD .skip) (packT [(.list .str)]) n (argsV [(.list .str)] (a0, ()))
noncomputable abbrev L_spec_l5Sorted_0_3 (n : Nat) (x1 : (List (List Int))) (x2 : (List (List Int))) (x3 : Int) (x4 : Int) : Option (List (List Int)) := lam Tryz.prog A_spec_l5Sorted In_spec_l5Sorted (conOf cs_spec_l5Sorted) Tryz.f75 (Tryz.f75.body.getD .skip) (packT [(.list .str)]) n [0, 3] [.own 0 .str x1, .d (.list .str) x2, .d I64 x3, .d I64 x4]
noncomputable abbrev L_spec_l5Sorted_0_6 (n : Nat) (x1 : (List (List Int))) (x2 : (List Int)) (x3 : Int) (x4 : (List (List Int))) (x5 : Int) (x6 : Int) : Option (List (List Int)) := lam Tryz.prog A_spec_l5Sorted In_spec_l5Sorted (conOf cs_spec_l5Sorted) Tryz.f75 (Tryz.f75.body.getD .skip) (packT [(.list .str)]) n [0, 6] [.own 0 .str x1, .d .str x2, .d I64 x3, .d (.list .str) x4, .d I64 x5, .d I64 x6]
noncomputable abbrev L_spec_l5Sorted_1_8 (n : Nat) (x1 : (List (List Int))) (x2 : (List Int)) (x3 : Int) (x4 : (List (List Int))) (x5 : Int) (x6 : Int) : Option (List (List Int)) := lam Tryz.prog A_spec_l5Sorted In_spec_l5Sorted (conOf cs_spec_l5Sorted) Tryz.f75 (Tryz.f75.body.getD .skip) (packT [(.list .str)]) n [1, 8] [.own 0 .str x1, .d .str x2, .d I64 x3, .d (.list .str) x4, .d I64 x5, .d I64 x6]
noncomputable abbrev L_spec_l5Sorted_0_11 (n : Nat) (x1 : (List (List Int))) (x2 : (List Int)) (x3 : Int) (x4 : Int) (x5 : (List (List Int))) (x6 : Int) (x7 : Int) : Option (List (List Int)) := lam Tryz.prog A_spec_l5Sorted In_spec_l5Sorted (conOf cs_spec_l5Sorted) Tryz.f75 (Tryz.f75.body.getD .skip) (packT [(.list .str)]) n [0, 11] [.own 0 .str x1, .d .str x2, .d I64 x3, .d I64 x4, .d (.list .str) x5, .d I64 x6, .d I64 x7]
theorem F_spec_l5Sorted_eq (n : Nat) (a0 : (List (List Int))) : F_spec_l5Sorted n a0 =
    L_spec_l5Sorted_0_3 n [] a0 (a0.length : Int) 0 := by kernel_rfl
theorem L_spec_l5Sorted_0_3_eq (n : Nat) (x1 : (List (List Int))) (x2 : (List (List Int))) (x3 : Int) (x4 : Int) : L_spec_l5Sorted_0_3 (n + 1) x1 x2 x3 x4 =
    bif decide (x4 < x3) then
      bif inB x4 x2.length then
        L_spec_l5Sorted_0_6 n x1 (rd x2 x4 (Ty.dflt .str)) (x1.length : Int) x2 x3 x4
      else none
    else
      some x1 := by kernel_rfl
theorem L_spec_l5Sorted_0_6_eq (n : Nat) (x1 : (List (List Int))) (x2 : (List Int)) (x3 : Int) (x4 : (List (List Int))) (x5 : Int) (x6 : Int) : L_spec_l5Sorted_0_6 (n + 1) x1 x2 x3 x4 x5 x6 =
    bif decide ((0 : Int) < x3) then
      bif inB (IntKind.wrap .i64 (x3 - 1)) x1.length then
        bif inB (IntKind.wrap .i64 (x3 - 1)) x1.length then
          Option.bind (P_spec_l1CmpText (rd x1 (IntKind.wrap .i64 (x3 - 1)) (Ty.dflt .str)) x2) fun (y1 : Int) =>
          bif decide ((0 : Int) < y1) then
            L_spec_l5Sorted_0_6 n x1 x2 (IntKind.wrap .i64 (x3 - 1)) x4 x5 x6
          else
            L_spec_l5Sorted_1_8 n x1 x2 x3 x4 x5 x6
        else none
      else none
    else
      L_spec_l5Sorted_1_8 n x1 x2 x3 x4 x5 x6 := by kernel_rfl
theorem L_spec_l5Sorted_1_8_eq (n : Nat) (x1 : (List (List Int))) (x2 : (List Int)) (x3 : Int) (x4 : (List (List Int))) (x5 : Int) (x6 : Int) : L_spec_l5Sorted_1_8 (n + 1) x1 x2 x3 x4 x5 x6 =
    bif decide ((0 : Int) < x3) then
      bif inB (IntKind.wrap .i64 (x3 - 1)) x1.length then
        bif inB (IntKind.wrap .i64 (x3 - 1)) x1.length then
          bif decide (rd x1 (IntKind.wrap .i64 (x3 - 1)) (Ty.dflt .str) = x2) then
            L_spec_l5Sorted_0_3 n x1 x4 x5 (IntKind.wrap .i64 (x6 + 1))
          else
            bif decide (((x1.length : Int) + (([x2] : List (List Int)).length : Int)) * 16 ≤ room) && decide ((x1.length : Int) + (([x2] : List (List Int)).length : Int) ≤ room) then
              L_spec_l5Sorted_0_11 n (x1 ++ ([x2] : List (List Int))) x2 x3 (IntKind.wrap .i64 (((x1 ++ ([x2] : List (List Int))).length : Int) - 1)) x4 x5 x6
            else none
        else none
      else none
    else
      bif decide (((x1.length : Int) + (([x2] : List (List Int)).length : Int)) * 16 ≤ room) && decide ((x1.length : Int) + (([x2] : List (List Int)).length : Int) ≤ room) then
        L_spec_l5Sorted_0_11 n (x1 ++ ([x2] : List (List Int))) x2 x3 (IntKind.wrap .i64 (((x1 ++ ([x2] : List (List Int))).length : Int) - 1)) x4 x5 x6
      else none := by kernel_rfl
theorem L_spec_l5Sorted_0_11_eq (n : Nat) (x1 : (List (List Int))) (x2 : (List Int)) (x3 : Int) (x4 : Int) (x5 : (List (List Int))) (x6 : Int) (x7 : Int) : L_spec_l5Sorted_0_11 (n + 1) x1 x2 x3 x4 x5 x6 x7 =
    bif decide (x3 < x4) then
      bif inB (IntKind.wrap .i64 (x4 - 1)) x1.length then
        bif inB (IntKind.wrap .i64 (x4 - 1)) x1.length then
          bif inB x4 x1.length then
            bif inB x4 x1.length && true && true && true && true then
              L_spec_l5Sorted_0_11 n (x1.set (Int.toNat x4) (rd x1 (IntKind.wrap .i64 (x4 - 1)) (Ty.dflt .str))) x2 x3 (IntKind.wrap .i64 (x4 - 1)) x5 x6 x7
            else none
          else none
        else none
      else none
    else
      bif inB x3 x1.length then
        bif inB x3 x1.length && true && true && true && true then
          L_spec_l5Sorted_0_3 n (x1.set (Int.toNat x3) x2) x5 x6 (IntKind.wrap .i64 (x7 + 1))
        else none
      else none := by kernel_rfl
theorem S_spec_l5Sorted_0_11 {K0 : (List (List Int)) → Option (List (List Int))} {x2 : (List Int)} {x3 : Int} {x5 : (List (List Int))} {x6 : Int} {x7 : Int} (hK0 : ∀ (z1 : (List (List Int))) (r : (List (List Int))), K0 z1 = some r → Ev (fun n => L_spec_l5Sorted_0_3 n z1 x5 x6 (IntKind.wrap .i64 (x7 + 1))) r) : ∀ (m : Nat) (x1 : (List (List Int))) (x4 : Int) (r : (List (List Int))), P_spec_l5Sorted_0_11 K0 x2 x3 m x1 x4 = some r → Ev (fun n => L_spec_l5Sorted_0_11 n x1 x2 x3 x4 x5 x6 x7) r := by
  intro m
  induction m with
  | zero => intro x1 x4 r h; rw [P_spec_l5Sorted_0_11] at h; exact Ev.ofNone h
  | succ m ih2 =>
    intro x1 x4 r h
    rw [P_spec_l5Sorted_0_11] at h
    refine Ev.step ?_ (fun n => L_spec_l5Sorted_0_11_eq n x1 x2 x3 x4 x5 x6 x7)
    exact (Ev.ofBif h (fun h => (Ev.ofBif h (fun h => (Ev.ofBif h (fun h => (Ev.ofBif h (fun h => (Ev.ofBif h (fun h => (ih2 _ _ _ h)) (fun h => (Ev.ofNone h)))) (fun h => (Ev.ofNone h)))) (fun h => (Ev.ofNone h)))) (fun h => (Ev.ofNone h)))) (fun h => (Ev.ofBif h (fun h => (Ev.ofBif h (fun h => (hK0 _ _ h)) (fun h => (Ev.ofNone h)))) (fun h => (Ev.ofNone h)))))
theorem S_spec_l5Sorted_1_8 {K0 : (List (List Int)) → Option (List (List Int))} {m : Nat} {x1 : (List (List Int))} {x2 : (List Int)} {x3 : Int} {x4 : (List (List Int))} {x5 : Int} {x6 : Int} (hK0 : ∀ (z1 : (List (List Int))) (r : (List (List Int))), K0 z1 = some r → Ev (fun n => L_spec_l5Sorted_0_3 n z1 x4 x5 (IntKind.wrap .i64 (x6 + 1))) r) {r : (List (List Int))} (h : P_spec_l5Sorted_1_8 K0 m x1 x2 x3 = some r) : Ev (fun n => L_spec_l5Sorted_1_8 n x1 x2 x3 x4 x5 x6) r := by
  rw [P_spec_l5Sorted_1_8] at h
  refine Ev.step ?_ (fun n => L_spec_l5Sorted_1_8_eq n x1 x2 x3 x4 x5 x6)
  exact (Ev.ofBif h (fun h => (Ev.ofBif h (fun h => (Ev.ofBif h (fun h => (Ev.ofBif h (fun h => (hK0 _ _ h)) (fun h => (Ev.ofBif h (fun h => (S_spec_l5Sorted_0_11 hK0 _ _ _ _ h)) (fun h => (Ev.ofNone h)))))) (fun h => (Ev.ofNone h)))) (fun h => (Ev.ofNone h)))) (fun h => (Ev.ofBif h (fun h => (S_spec_l5Sorted_0_11 hK0 _ _ _ _ h)) (fun h => (Ev.ofNone h)))))
theorem S_spec_l5Sorted_0_6 {K0 : (List (List Int)) → Option (List (List Int))} {x1 : (List (List Int))} {x2 : (List Int)} {x4 : (List (List Int))} {x5 : Int} {x6 : Int} (hK0 : ∀ (z1 : (List (List Int))) (r : (List (List Int))), K0 z1 = some r → Ev (fun n => L_spec_l5Sorted_0_3 n z1 x4 x5 (IntKind.wrap .i64 (x6 + 1))) r) : ∀ (m : Nat) (x3 : Int) (r : (List (List Int))), P_spec_l5Sorted_0_6 K0 x1 x2 m x3 = some r → Ev (fun n => L_spec_l5Sorted_0_6 n x1 x2 x3 x4 x5 x6) r := by
  intro m
  induction m with
  | zero => intro x3 r h; rw [P_spec_l5Sorted_0_6] at h; exact Ev.ofNone h
  | succ m ih2 =>
    intro x3 r h
    rw [P_spec_l5Sorted_0_6] at h
    refine Ev.step ?_ (fun n => L_spec_l5Sorted_0_6_eq n x1 x2 x3 x4 x5 x6)
    exact (Ev.ofBif h (fun h => (Ev.ofBif h (fun h => (Ev.ofBif h (fun h => (Ev.ofBind h fun y1 h => (Ev.ofBif h (fun h => (ih2 _ _ h)) (fun h => (S_spec_l5Sorted_1_8 hK0 h))))) (fun h => (Ev.ofNone h)))) (fun h => (Ev.ofNone h)))) (fun h => (S_spec_l5Sorted_1_8 hK0 h)))
theorem S_spec_l5Sorted_0_3 {m : Nat} {x2 : (List (List Int))} (hl : x2.length ≤ maxLen) : ∀ (rest : List (List Int)) (k : Nat) (x1 : (List (List Int))) (r : (List (List Int))), rest = x2.drop k → P_spec_l5Sorted_0_3 m rest x1 = some r → Ev (fun n => L_spec_l5Sorted_0_3 n x1 x2 (x2.length : Int) (k : Int)) r := by
  intro rest
  induction rest with
  | nil =>
    intro k x1 r hr h
    have hk := drop_nil hr
    rw [P_spec_l5Sorted_0_3] at h
    refine Ev.step ?_ (fun n => L_spec_l5Sorted_0_3_eq n x1 x2 (x2.length : Int) (k : Int))
    rw [show decide ((k : Int) < (x2.length : Int)) = false from decide_eq_false (by omega)]
    exact Ev.neg rfl (Ev.ofSome h)
  | cons e rest ih =>
    intro k x1 r hr h
    obtain ⟨hk, hx, hr2⟩ := drop_cons (d := (Ty.dflt .str)) hr
    have hw := wrap_succ hl hk
    have ih2 : ∀ (z1 : (List (List Int))) (r : (List (List Int))), P_spec_l5Sorted_0_3 m rest z1 = some r → Ev (fun n => L_spec_l5Sorted_0_3 n z1 x2 (x2.length : Int) (IntKind.wrap .i64 ((k : Int) + 1))) r := by
      intro z1 r h; rw [hw]; exact ih (k + 1) z1 r hr2 h
    rw [P_spec_l5Sorted_0_3] at h
    refine Ev.step ?_ (fun n => L_spec_l5Sorted_0_3_eq n x1 x2 (x2.length : Int) (k : Int))
    rw [show decide ((k : Int) < (x2.length : Int)) = true from decide_eq_true (by omega), inB_nat2 hk, hx]
    exact Ev.pos rfl (Ev.pos rfl (S_spec_l5Sorted_0_6 ih2 _ _ _ h))
theorem S_spec_l5Sorted {m : Nat} (a0 : (List (List Int))) {r : (List (List Int))} (h : P_spec_l5Sorted m a0 = some r) : Ev (fun n => F_spec_l5Sorted n a0) r := by
  rw [P_spec_l5Sorted] at h
  refine Ev.of_eq ?_ (fun n => F_spec_l5Sorted_eq n a0)
  exact (Ev.ofLen h fun hl h => S_spec_l5Sorted_0_3 hl _ (0 : Nat) _ _ rfl h)
theorem hcs_spec_l5Sorted : ∀ x ∈ cs_spec_l5Sorted, CtrOk Tryz.prog x := (conOf_cons ok_spec_l1CmpText conOf_nil)
theorem ok_spec_l5Sorted : CtrOk Tryz.prog (c_spec_l5Sorted) := by
  refine ctr_of_run (c := c_spec_l5Sorted) (by kernel_rfl) (by kernel_rfl : Tryz.prog.funcs[75]? = some Tryz.f75) (code := Tryz.f75.body.getD .skip) (by kernel_rfl) (by kernel_rfl) (by kernel_rfl) (A := A_spec_l5Sorted) (I := In_spec_l5Sorted) (hcs_spec_l5Sorted) ?_
  rintro ⟨a0, u⟩ y hy
  exact let ⟨_, h⟩ := (evOpt_get hy).get; (S_spec_l5Sorted a0 h).get

/-! ## spec.l15Under (55) -/
noncomputable def P_spec_l15Under_0_8 (K0 : (List (List Int)) → Int → Option (List (List Int))) (x2 : Int) : List (List Int) → (List (List Int)) → Option (List (List Int))
  | [], x1 =>
      K0 x1 (IntKind.wrap .i64 (x2 + 1))
  | e :: rest, x1 =>
      Option.bind (P_spec_l3Has x1 (e)) fun (y2 : Bool) =>
      bif !(y2) then
        bif decide (((x1.length : Int) + (([e] : List (List Int)).length : Int)) * 16 ≤ room) && decide ((x1.length : Int) + (([e] : List (List Int)).length : Int) ≤ room) then
          P_spec_l15Under_0_8 K0 x2 rest (x1 ++ ([e] : List (List Int)))
        else none
      else
        P_spec_l15Under_0_8 K0 x2 rest x1
noncomputable def P_spec_l15Under_0_4 (x3 : DRoleSet) : Nat → (List (List Int)) → Int → Option (List (List Int))
  | 0, _, _ => none
  | m + 1, x1, x2 =>
      bif decide (x2 < (x1.length : Int)) then
        bif inB x2 x1.length then
          Option.bind (P_spec_l15Role x3 (rd x1 x2 (Ty.dflt .str))) fun (y1 : (DRole × Bool)) =>
          lenOk y1.1.2.1 (P_spec_l15Under_0_8 (fun s0 s1 => P_spec_l15Under_0_4 x3 m s0 s1) x2 y1.1.2.1 x1)
        else none
      else
        Option.bind (E_spec_l5Sorted x1) fun (y3 : (List (List Int))) =>
        some y3
noncomputable def P_spec_l15Under (m : Nat) (a0 : DRoleSet) (a1 : (List (List Int))) : Option (List (List Int)) :=
  bif decide ((a1.length : Int) * 16 ≤ room) && decide ((a1.length : Int) ≤ room) then
    P_spec_l15Under_0_4 a0 m a1 0
  else none
noncomputable def E_spec_l15Under (a0 : DRoleSet) (a1 : (List (List Int))) : Option (List (List Int)) := evOpt fun m => P_spec_l15Under m a0 a1
noncomputable def c_spec_l15Under : Ctr := ⟨55, [TyRoleSet, (.list .str)], [(.list .str)], fun x => E_spec_l15Under x.1 x.2.1⟩
def A_spec_l15Under : List (List Nat × Ann) := [([0, 4], [.keep 0 2, .own 0 5 .str, .keep 0 6, .boxd 0 2 TyRoleSet]), ([0, 8], [.keep 0 2, .own 0 5 .str, .keep 0 6, .keep 0 30, .keep 0 31, .keep 0 32, .boxd 0 2 TyRoleSet])]
def In_spec_l15Under : List (List Nat × Nat) := []
noncomputable def cs_spec_l15Under : List Ctr := [c_spec_l15Role, c_spec_l3Has, c_spec_l5Sorted]
noncomputable def F_spec_l15Under (n : Nat) (a0 : DRoleSet) (a1 : (List (List Int))) : Option (List (List Int)) := run Tryz.prog A_spec_l15Under In_spec_l15Under (conOf cs_spec_l15Under) Tryz.f55 (Tryz.f55.body.getD .skip) (packT [(.list .str)]) n (argsV [TyRoleSet, (.list .str)] (a0, a1, ()))
noncomputable abbrev L_spec_l15Under_0_4 (n : Nat) (x1 : (List (List Int))) (x2 : Int) (x3 : DRoleSet) : Option (List (List Int)) := lam Tryz.prog A_spec_l15Under In_spec_l15Under (conOf cs_spec_l15Under) Tryz.f55 (Tryz.f55.body.getD .skip) (packT [(.list .str)]) n [0, 4] [.ptr 0 2 0, .own 0 .str x1, .d I64 x2, .agg (explode TyRoleSet x3)]
noncomputable abbrev L_spec_l15Under_0_8 (n : Nat) (x1 : (List (List Int))) (x2 : Int) (x3 : (List (List Int))) (x4 : Int) (x5 : Int) (x6 : DRoleSet) : Option (List (List Int)) := lam Tryz.prog A_spec_l15Under In_spec_l15Under (conOf cs_spec_l15Under) Tryz.f55 (Tryz.f55.body.getD .skip) (packT [(.list .str)]) n [0, 8] [.ptr 0 2 0, .own 0 .str x1, .d I64 x2, .d (.list .str) x3, .d I64 x4, .d I64 x5, .agg (explode TyRoleSet x6)]
theorem F_spec_l15Under_eq (n : Nat) (a0 : DRoleSet) (a1 : (List (List Int))) : F_spec_l15Under n a0 a1 =
    bif decide ((a1.length : Int) * 16 ≤ room) && decide ((a1.length : Int) ≤ room) then
      L_spec_l15Under_0_4 n a1 0 a0
    else none := by kernel_rfl
theorem L_spec_l15Under_0_4_eq (n : Nat) (x1 : (List (List Int))) (x2 : Int) (x3 : DRoleSet) : L_spec_l15Under_0_4 (n + 1) x1 x2 x3 =
    bif decide (x2 < (x1.length : Int)) then
      bif inB x2 x1.length then
        Option.bind (P_spec_l15Role x3 (rd x1 x2 (Ty.dflt .str))) fun (y1 : (DRole × Bool)) =>
        L_spec_l15Under_0_8 n x1 x2 y1.1.2.1 (y1.1.2.1.length : Int) 0 x3
      else none
    else
      Option.bind (E_spec_l5Sorted x1) fun (y3 : (List (List Int))) =>
      some y3 := by kernel_rfl
theorem L_spec_l15Under_0_8_eq (n : Nat) (x1 : (List (List Int))) (x2 : Int) (x3 : (List (List Int))) (x4 : Int) (x5 : Int) (x6 : DRoleSet) : L_spec_l15Under_0_8 (n + 1) x1 x2 x3 x4 x5 x6 =
    bif decide (x5 < x4) then
      bif inB x5 x3.length then
        Option.bind (P_spec_l3Has x1 (rd x3 x5 (Ty.dflt .str))) fun (y2 : Bool) =>
        bif !(y2) then
          bif decide (((x1.length : Int) + (([rd x3 x5 (Ty.dflt .str)] : List (List Int)).length : Int)) * 16 ≤ room) && decide ((x1.length : Int) + (([rd x3 x5 (Ty.dflt .str)] : List (List Int)).length : Int) ≤ room) then
            L_spec_l15Under_0_8 n (x1 ++ ([rd x3 x5 (Ty.dflt .str)] : List (List Int))) x2 x3 x4 (IntKind.wrap .i64 (x5 + 1)) x6
          else none
        else
          L_spec_l15Under_0_8 n x1 x2 x3 x4 (IntKind.wrap .i64 (x5 + 1)) x6
      else none
    else
      L_spec_l15Under_0_4 n x1 (IntKind.wrap .i64 (x2 + 1)) x6 := by kernel_rfl
theorem S_spec_l15Under_0_8 {K0 : (List (List Int)) → Int → Option (List (List Int))} {x2 : Int} {x3 : (List (List Int))} {x6 : DRoleSet} (hl : x3.length ≤ maxLen) (hK0 : ∀ (z1 : (List (List Int))) (z2 : Int) (r : (List (List Int))), K0 z1 z2 = some r → Ev (fun n => L_spec_l15Under_0_4 n z1 z2 x6) r) : ∀ (rest : List (List Int)) (k : Nat) (x1 : (List (List Int))) (r : (List (List Int))), rest = x3.drop k → P_spec_l15Under_0_8 K0 x2 rest x1 = some r → Ev (fun n => L_spec_l15Under_0_8 n x1 x2 x3 (x3.length : Int) (k : Int) x6) r := by
  intro rest
  induction rest with
  | nil =>
    intro k x1 r hr h
    have hk := drop_nil hr
    rw [P_spec_l15Under_0_8] at h
    refine Ev.step ?_ (fun n => L_spec_l15Under_0_8_eq n x1 x2 x3 (x3.length : Int) (k : Int) x6)
    rw [show decide ((k : Int) < (x3.length : Int)) = false from decide_eq_false (by omega)]
    exact Ev.neg rfl (hK0 _ _ _ h)
  | cons e rest ih =>
    intro k x1 r hr h
    obtain ⟨hk, hx, hr2⟩ := drop_cons (d := (Ty.dflt .str)) hr
    have hw := wrap_succ hl hk
    have ih2 : ∀ (z1 : (List (List Int))) (r : (List (List Int))), P_spec_l15Under_0_8 K0 x2 rest z1 = some r → Ev (fun n => L_spec_l15Under_0_8 n z1 x2 x3 (x3.length : Int) (IntKind.wrap .i64 ((k : Int) + 1)) x6) r := by
      intro z1 r h; rw [hw]; exact ih (k + 1) z1 r hr2 h
    rw [P_spec_l15Under_0_8] at h
    refine Ev.step ?_ (fun n => L_spec_l15Under_0_8_eq n x1 x2 x3 (x3.length : Int) (k : Int) x6)
    rw [show decide ((k : Int) < (x3.length : Int)) = true from decide_eq_true (by omega), inB_nat2 hk, hx]
    exact Ev.pos rfl (Ev.pos rfl (Ev.ofBind h fun y2 h => (Ev.ofBif h (fun h => (Ev.ofBif h (fun h => (ih2 _ _ h)) (fun h => (Ev.ofNone h)))) (fun h => (ih2 _ _ h)))))
theorem S_spec_l15Under_0_4 {x3 : DRoleSet} : ∀ (m : Nat) (x1 : (List (List Int))) (x2 : Int) (r : (List (List Int))), P_spec_l15Under_0_4 x3 m x1 x2 = some r → Ev (fun n => L_spec_l15Under_0_4 n x1 x2 x3) r := by
  intro m
  induction m with
  | zero => intro x1 x2 r h; rw [P_spec_l15Under_0_4] at h; exact Ev.ofNone h
  | succ m ih2 =>
    intro x1 x2 r h
    rw [P_spec_l15Under_0_4] at h
    refine Ev.step ?_ (fun n => L_spec_l15Under_0_4_eq n x1 x2 x3)
    exact (Ev.ofBif h (fun h => (Ev.ofBif h (fun h => (Ev.ofBind h fun y1 h => (Ev.ofLen h fun hl h => S_spec_l15Under_0_8 hl ih2 _ (0 : Nat) _ _ rfl h))) (fun h => (Ev.ofNone h)))) (fun h => (Ev.ofBind h fun y3 h => (Ev.ofSome h))))
theorem S_spec_l15Under {m : Nat} (a0 : DRoleSet) (a1 : (List (List Int))) {r : (List (List Int))} (h : P_spec_l15Under m a0 a1 = some r) : Ev (fun n => F_spec_l15Under n a0 a1) r := by
  rw [P_spec_l15Under] at h
  refine Ev.of_eq ?_ (fun n => F_spec_l15Under_eq n a0 a1)
  exact (Ev.ofBif h (fun h => (S_spec_l15Under_0_4 _ _ _ _ h)) (fun h => (Ev.ofNone h)))
theorem hcs_spec_l15Under : ∀ x ∈ cs_spec_l15Under, CtrOk Tryz.prog x := (conOf_cons ok_spec_l15Role (conOf_cons ok_spec_l3Has (conOf_cons ok_spec_l5Sorted conOf_nil)))
theorem ok_spec_l15Under : CtrOk Tryz.prog (c_spec_l15Under) := by
  refine ctr_of_run (c := c_spec_l15Under) (by kernel_rfl) (by kernel_rfl : Tryz.prog.funcs[55]? = some Tryz.f55) (code := Tryz.f55.body.getD .skip) (by kernel_rfl) (by kernel_rfl) (by kernel_rfl) (A := A_spec_l15Under) (I := In_spec_l15Under) (hcs_spec_l15Under) ?_
  rintro ⟨a0, a1, u⟩ y hy
  exact let ⟨_, h⟩ := (evOpt_get hy).get; (S_spec_l15Under a0 a1 h).get

/-! ## spec.GoodRoleSet (23) -/
noncomputable def P_spec_GoodRoleSet_0_9 (K0 : Option Bool) : List (List Int) → Option Bool
  | [] =>
      K0
  | e :: rest =>
      Option.bind (P_spec_GoodName (e)) fun (y6 : Bool) =>
      bif !(y6) then
        some false
      else
        P_spec_GoodRoleSet_0_9 K0 rest
noncomputable def P_spec_GoodRoleSet_0_22 (x4 : DRoleSet) : List DApart → Option Bool
  | [] =>
      some true
  | e :: rest =>
      bif decide ((((e).1).length : Int) < 2) then
        some false
      else
        Option.bind (P_spec_l15All x4 ((e).1)) fun (y11 : Bool) =>
        bif !(y11) then
          some false
        else
          bif decide (((e).2).1 < 1) then
            some false
          else
            bif decide ((((e).1).length : Int) ≤ ((e).2).1) then
              some false
            else
              P_spec_GoodRoleSet_0_22 x4 rest
noncomputable def P_spec_GoodRoleSet_0_16 (x4 : DRoleSet) : List DRole → Option Bool
  | [] =>
      lenOk x4.2.1 (P_spec_GoodRoleSet_0_22 x4 x4.2.1)
  | e :: rest =>
      Option.bind (E_spec_l15Under x4 (((e).2).1)) fun (y9 : (List (List Int))) =>
      Option.bind (P_spec_l3Has y9 ((e).1)) fun (y10 : Bool) =>
      bif y10 then
        some false
      else
        P_spec_GoodRoleSet_0_16 x4 rest
noncomputable def P_spec_GoodRoleSet_0_4 (x4 : DRoleSet) : List DRole → Nat → Option Bool
  | [], k =>
      lenOk x4.1 (P_spec_GoodRoleSet_0_16 x4 x4.1)
  | e :: rest, k =>
      Option.bind (P_spec_GoodName ((e).1)) fun (y2 : Bool) =>
      bif !(y2) then
        some false
      else
        bif decide ((0 : Int) < (k : Int)) then
          bif inB (IntKind.wrap .i64 ((k : Int) - 1)) x4.1.length then
            Option.bind (P_spec_l1CmpText ((rd x4.1 (IntKind.wrap .i64 ((k : Int) - 1)) (Ty.dflt TyRole)).1) ((e).1)) fun (y3 : Int) =>
            bif decide ((0 : Int) ≤ y3) then
              some false
            else
              Option.bind (P_spec_l15All x4 (((e).2).1)) fun (y4 : Bool) =>
              bif !(y4) then
                some false
              else
                bif decide ((20 : Int) < ((((e).2).2).length : Int)) then
                  some false
                else
                  Option.bind (P_spec_l3Rising (((e).2).2)) fun (y5 : Bool) =>
                  bif !(y5) then
                    some false
                  else
                    lenOk (((e).2).2) (P_spec_GoodRoleSet_0_9 (P_spec_GoodRoleSet_0_4 x4 rest (k + 1)) (((e).2).2))
          else none
        else
          Option.bind (P_spec_l15All x4 (((e).2).1)) fun (y7 : Bool) =>
          bif !(y7) then
            some false
          else
            bif decide ((20 : Int) < ((((e).2).2).length : Int)) then
              some false
            else
              Option.bind (P_spec_l3Rising (((e).2).2)) fun (y8 : Bool) =>
              bif !(y8) then
                some false
              else
                lenOk (((e).2).2) (P_spec_GoodRoleSet_0_9 (P_spec_GoodRoleSet_0_4 x4 rest (k + 1)) (((e).2).2))
noncomputable def P_spec_GoodRoleSet (a0 : DRoleSet) : Option Bool :=
  bif decide ((30 : Int) < (a0.1.length : Int)) then
    some false
  else
    bif decide ((10 : Int) < (a0.2.1.length : Int)) then
      some false
    else
      Option.bind (P_spec_l15All a0 a0.2.2) fun (y1 : Bool) =>
      bif !(y1) then
        some false
      else
        lenOk a0.1 (P_spec_GoodRoleSet_0_4 a0 a0.1 0)
noncomputable def c_spec_GoodRoleSet : Ctr := ⟨23, [TyRoleSet], [.bool], fun x => P_spec_GoodRoleSet x.1⟩
def A_spec_GoodRoleSet : List (List Nat × Ann) := [([0, 4], [.keep 0 1, .keep 0 29, .keep 0 30, .keep 0 31, .boxd 0 1 TyRoleSet]), ([0, 9], [.keep 0 1, .keep 0 29, .keep 0 30, .keep 0 31, .keep 0 77, .keep 0 78, .keep 0 79, .boxd 0 1 TyRoleSet]), ([0, 16], [.keep 0 1, .keep 0 89, .keep 0 90, .keep 0 91, .boxd 0 1 TyRoleSet]), ([0, 22], [.keep 0 1, .keep 0 104, .keep 0 105, .keep 0 106, .boxd 0 1 TyRoleSet])]
def In_spec_GoodRoleSet : List (List Nat × Nat) := []
noncomputable def cs_spec_GoodRoleSet : List Ctr := [c_spec_l15All, c_spec_GoodName, c_spec_l1CmpText, c_spec_l3Rising, c_spec_l15Under, c_spec_l3Has]
noncomputable def F_spec_GoodRoleSet (n : Nat) (a0 : DRoleSet) : Option Bool := run Tryz.prog A_spec_GoodRoleSet In_spec_GoodRoleSet (conOf cs_spec_GoodRoleSet) Tryz.f23 (Tryz.f23.body.getD .skip) (packT [.bool]) n (argsV [TyRoleSet] (a0, ()))
noncomputable abbrev L_spec_GoodRoleSet_0_4 (n : Nat) (x1 : (List DRole)) (x2 : Int) (x3 : Int) (x4 : DRoleSet) : Option Bool := lam Tryz.prog A_spec_GoodRoleSet In_spec_GoodRoleSet (conOf cs_spec_GoodRoleSet) Tryz.f23 (Tryz.f23.body.getD .skip) (packT [.bool]) n [0, 4] [.ptr 0 1 0, .d (.list TyRole) x1, .d I64 x2, .d I64 x3, .agg (explode TyRoleSet x4)]
noncomputable abbrev L_spec_GoodRoleSet_0_9 (n : Nat) (x1 : (List DRole)) (x2 : Int) (x3 : Int) (x4 : (List (List Int))) (x5 : Int) (x6 : Int) (x7 : DRoleSet) : Option Bool := lam Tryz.prog A_spec_GoodRoleSet In_spec_GoodRoleSet (conOf cs_spec_GoodRoleSet) Tryz.f23 (Tryz.f23.body.getD .skip) (packT [.bool]) n [0, 9] [.ptr 0 1 0, .d (.list TyRole) x1, .d I64 x2, .d I64 x3, .d (.list .str) x4, .d I64 x5, .d I64 x6, .agg (explode TyRoleSet x7)]
noncomputable abbrev L_spec_GoodRoleSet_0_16 (n : Nat) (x1 : (List DRole)) (x2 : Int) (x3 : Int) (x4 : DRoleSet) : Option Bool := lam Tryz.prog A_spec_GoodRoleSet In_spec_GoodRoleSet (conOf cs_spec_GoodRoleSet) Tryz.f23 (Tryz.f23.body.getD .skip) (packT [.bool]) n [0, 16] [.ptr 0 1 0, .d (.list TyRole) x1, .d I64 x2, .d I64 x3, .agg (explode TyRoleSet x4)]
noncomputable abbrev L_spec_GoodRoleSet_0_22 (n : Nat) (x1 : (List DApart)) (x2 : Int) (x3 : Int) (x4 : DRoleSet) : Option Bool := lam Tryz.prog A_spec_GoodRoleSet In_spec_GoodRoleSet (conOf cs_spec_GoodRoleSet) Tryz.f23 (Tryz.f23.body.getD .skip) (packT [.bool]) n [0, 22] [.ptr 0 1 0, .d (.list TyApart) x1, .d I64 x2, .d I64 x3, .agg (explode TyRoleSet x4)]
theorem F_spec_GoodRoleSet_eq (n : Nat) (a0 : DRoleSet) : F_spec_GoodRoleSet n a0 =
    bif decide ((30 : Int) < (a0.1.length : Int)) then
      some false
    else
      bif decide ((10 : Int) < (a0.2.1.length : Int)) then
        some false
      else
        Option.bind (P_spec_l15All a0 a0.2.2) fun (y1 : Bool) =>
        bif !(y1) then
          some false
        else
          L_spec_GoodRoleSet_0_4 n a0.1 (a0.1.length : Int) 0 a0 := by kernel_rfl
theorem L_spec_GoodRoleSet_0_4_eq (n : Nat) (x1 : (List DRole)) (x2 : Int) (x3 : Int) (x4 : DRoleSet) : L_spec_GoodRoleSet_0_4 (n + 1) x1 x2 x3 x4 =
    bif decide (x3 < x2) then
      bif inB x3 x1.length then
        Option.bind (P_spec_GoodName ((rd x1 x3 (Ty.dflt TyRole)).1)) fun (y2 : Bool) =>
        bif !(y2) then
          some false
        else
          bif decide ((0 : Int) < x3) then
            bif inB (IntKind.wrap .i64 (x3 - 1)) x4.1.length then
              Option.bind (P_spec_l1CmpText ((rd x4.1 (IntKind.wrap .i64 (x3 - 1)) (Ty.dflt TyRole)).1) ((rd x1 x3 (Ty.dflt TyRole)).1)) fun (y3 : Int) =>
              bif decide ((0 : Int) ≤ y3) then
                some false
              else
                Option.bind (P_spec_l15All x4 (((rd x1 x3 (Ty.dflt TyRole)).2).1)) fun (y4 : Bool) =>
                bif !(y4) then
                  some false
                else
                  bif decide ((20 : Int) < ((((rd x1 x3 (Ty.dflt TyRole)).2).2).length : Int)) then
                    some false
                  else
                    Option.bind (P_spec_l3Rising (((rd x1 x3 (Ty.dflt TyRole)).2).2)) fun (y5 : Bool) =>
                    bif !(y5) then
                      some false
                    else
                      L_spec_GoodRoleSet_0_9 n x1 x2 x3 (((rd x1 x3 (Ty.dflt TyRole)).2).2) ((((rd x1 x3 (Ty.dflt TyRole)).2).2).length : Int) 0 x4
            else none
          else
            Option.bind (P_spec_l15All x4 (((rd x1 x3 (Ty.dflt TyRole)).2).1)) fun (y7 : Bool) =>
            bif !(y7) then
              some false
            else
              bif decide ((20 : Int) < ((((rd x1 x3 (Ty.dflt TyRole)).2).2).length : Int)) then
                some false
              else
                Option.bind (P_spec_l3Rising (((rd x1 x3 (Ty.dflt TyRole)).2).2)) fun (y8 : Bool) =>
                bif !(y8) then
                  some false
                else
                  L_spec_GoodRoleSet_0_9 n x1 x2 x3 (((rd x1 x3 (Ty.dflt TyRole)).2).2) ((((rd x1 x3 (Ty.dflt TyRole)).2).2).length : Int) 0 x4
      else none
    else
      L_spec_GoodRoleSet_0_16 n x4.1 (x4.1.length : Int) 0 x4 := by kernel_rfl
theorem L_spec_GoodRoleSet_0_9_eq (n : Nat) (x1 : (List DRole)) (x2 : Int) (x3 : Int) (x4 : (List (List Int))) (x5 : Int) (x6 : Int) (x7 : DRoleSet) : L_spec_GoodRoleSet_0_9 (n + 1) x1 x2 x3 x4 x5 x6 x7 =
    bif decide (x6 < x5) then
      bif inB x6 x4.length then
        Option.bind (P_spec_GoodName (rd x4 x6 (Ty.dflt .str))) fun (y6 : Bool) =>
        bif !(y6) then
          some false
        else
          L_spec_GoodRoleSet_0_9 n x1 x2 x3 x4 x5 (IntKind.wrap .i64 (x6 + 1)) x7
      else none
    else
      L_spec_GoodRoleSet_0_4 n x1 x2 (IntKind.wrap .i64 (x3 + 1)) x7 := by kernel_rfl
theorem L_spec_GoodRoleSet_0_16_eq (n : Nat) (x1 : (List DRole)) (x2 : Int) (x3 : Int) (x4 : DRoleSet) : L_spec_GoodRoleSet_0_16 (n + 1) x1 x2 x3 x4 =
    bif decide (x3 < x2) then
      bif inB x3 x1.length then
        Option.bind (E_spec_l15Under x4 (((rd x1 x3 (Ty.dflt TyRole)).2).1)) fun (y9 : (List (List Int))) =>
        Option.bind (P_spec_l3Has y9 ((rd x1 x3 (Ty.dflt TyRole)).1)) fun (y10 : Bool) =>
        bif y10 then
          some false
        else
          L_spec_GoodRoleSet_0_16 n x1 x2 (IntKind.wrap .i64 (x3 + 1)) x4
      else none
    else
      L_spec_GoodRoleSet_0_22 n x4.2.1 (x4.2.1.length : Int) 0 x4 := by kernel_rfl
theorem L_spec_GoodRoleSet_0_22_eq (n : Nat) (x1 : (List DApart)) (x2 : Int) (x3 : Int) (x4 : DRoleSet) : L_spec_GoodRoleSet_0_22 (n + 1) x1 x2 x3 x4 =
    bif decide (x3 < x2) then
      bif inB x3 x1.length then
        bif decide ((((rd x1 x3 (Ty.dflt TyApart)).1).length : Int) < 2) then
          some false
        else
          Option.bind (P_spec_l15All x4 ((rd x1 x3 (Ty.dflt TyApart)).1)) fun (y11 : Bool) =>
          bif !(y11) then
            some false
          else
            bif decide (((rd x1 x3 (Ty.dflt TyApart)).2).1 < 1) then
              some false
            else
              bif decide ((((rd x1 x3 (Ty.dflt TyApart)).1).length : Int) ≤ ((rd x1 x3 (Ty.dflt TyApart)).2).1) then
                some false
              else
                L_spec_GoodRoleSet_0_22 n x1 x2 (IntKind.wrap .i64 (x3 + 1)) x4
      else none
    else
      some true := by kernel_rfl
theorem S_spec_GoodRoleSet_0_9 {K0 : Option Bool} {x1 : (List DRole)} {x2 : Int} {x3 : Int} {x4 : (List (List Int))} {x7 : DRoleSet} (hl : x4.length ≤ maxLen) (hK0 : ∀  (r : Bool), K0 = some r → Ev (fun n => L_spec_GoodRoleSet_0_4 n x1 x2 (IntKind.wrap .i64 (x3 + 1)) x7) r) : ∀ (rest : List (List Int)) (k : Nat) (r : Bool), rest = x4.drop k → P_spec_GoodRoleSet_0_9 K0 rest = some r → Ev (fun n => L_spec_GoodRoleSet_0_9 n x1 x2 x3 x4 (x4.length : Int) (k : Int) x7) r := by
  intro rest
  induction rest with
  | nil =>
    intro k r hr h
    have hk := drop_nil hr
    rw [P_spec_GoodRoleSet_0_9] at h
    refine Ev.step ?_ (fun n => L_spec_GoodRoleSet_0_9_eq n x1 x2 x3 x4 (x4.length : Int) (k : Int) x7)
    rw [show decide ((k : Int) < (x4.length : Int)) = false from decide_eq_false (by omega)]
    exact Ev.neg rfl (hK0  _ h)
  | cons e rest ih =>
    intro k r hr h
    obtain ⟨hk, hx, hr2⟩ := drop_cons (d := (Ty.dflt .str)) hr
    have hw := wrap_succ hl hk
    have ih2 : ∀ (r : Bool), P_spec_GoodRoleSet_0_9 K0 rest = some r → Ev (fun n => L_spec_GoodRoleSet_0_9 n x1 x2 x3 x4 (x4.length : Int) (IntKind.wrap .i64 ((k : Int) + 1)) x7) r := by
      intro r h; rw [hw]; exact ih (k + 1) r hr2 h
    rw [P_spec_GoodRoleSet_0_9] at h
    refine Ev.step ?_ (fun n => L_spec_GoodRoleSet_0_9_eq n x1 x2 x3 x4 (x4.length : Int) (k : Int) x7)
    rw [show decide ((k : Int) < (x4.length : Int)) = true from decide_eq_true (by omega), inB_nat2 hk, hx]
    exact Ev.pos rfl (Ev.pos rfl (Ev.ofBind h fun y6 h => (Ev.ofBif h (fun h => (Ev.ofSome h)) (fun h => (ih2  _ h)))))
theorem S_spec_GoodRoleSet_0_22 {x1 : (List DApart)} {x4 : DRoleSet} (hl : x1.length ≤ maxLen) : ∀ (rest : List DApart) (k : Nat) (r : Bool), rest = x1.drop k → P_spec_GoodRoleSet_0_22 x4 rest = some r → Ev (fun n => L_spec_GoodRoleSet_0_22 n x1 (x1.length : Int) (k : Int) x4) r := by
  intro rest
  induction rest with
  | nil =>
    intro k r hr h
    have hk := drop_nil hr
    rw [P_spec_GoodRoleSet_0_22] at h
    refine Ev.step ?_ (fun n => L_spec_GoodRoleSet_0_22_eq n x1 (x1.length : Int) (k : Int) x4)
    rw [show decide ((k : Int) < (x1.length : Int)) = false from decide_eq_false (by omega)]
    exact Ev.neg rfl (Ev.ofSome h)
  | cons e rest ih =>
    intro k r hr h
    obtain ⟨hk, hx, hr2⟩ := drop_cons (d := (Ty.dflt TyApart)) hr
    have hw := wrap_succ hl hk
    have ih2 : ∀ (r : Bool), P_spec_GoodRoleSet_0_22 x4 rest = some r → Ev (fun n => L_spec_GoodRoleSet_0_22 n x1 (x1.length : Int) (IntKind.wrap .i64 ((k : Int) + 1)) x4) r := by
      intro r h; rw [hw]; exact ih (k + 1) r hr2 h
    rw [P_spec_GoodRoleSet_0_22] at h
    refine Ev.step ?_ (fun n => L_spec_GoodRoleSet_0_22_eq n x1 (x1.length : Int) (k : Int) x4)
    rw [show decide ((k : Int) < (x1.length : Int)) = true from decide_eq_true (by omega), inB_nat2 hk, hx]
    exact Ev.pos rfl (Ev.pos rfl (Ev.ofBif h (fun h => (Ev.ofSome h)) (fun h => (Ev.ofBind h fun y11 h => (Ev.ofBif h (fun h => (Ev.ofSome h)) (fun h => (Ev.ofBif h (fun h => (Ev.ofSome h)) (fun h => (Ev.ofBif h (fun h => (Ev.ofSome h)) (fun h => (ih2  _ h)))))))))))
theorem S_spec_GoodRoleSet_0_16 {x1 : (List DRole)} {x4 : DRoleSet} (hl : x1.length ≤ maxLen) : ∀ (rest : List DRole) (k : Nat) (r : Bool), rest = x1.drop k → P_spec_GoodRoleSet_0_16 x4 rest = some r → Ev (fun n => L_spec_GoodRoleSet_0_16 n x1 (x1.length : Int) (k : Int) x4) r := by
  intro rest
  induction rest with
  | nil =>
    intro k r hr h
    have hk := drop_nil hr
    rw [P_spec_GoodRoleSet_0_16] at h
    refine Ev.step ?_ (fun n => L_spec_GoodRoleSet_0_16_eq n x1 (x1.length : Int) (k : Int) x4)
    rw [show decide ((k : Int) < (x1.length : Int)) = false from decide_eq_false (by omega)]
    exact Ev.neg rfl (Ev.ofLen h fun hl h => S_spec_GoodRoleSet_0_22 hl _ (0 : Nat) _ rfl h)
  | cons e rest ih =>
    intro k r hr h
    obtain ⟨hk, hx, hr2⟩ := drop_cons (d := (Ty.dflt TyRole)) hr
    have hw := wrap_succ hl hk
    have ih2 : ∀ (r : Bool), P_spec_GoodRoleSet_0_16 x4 rest = some r → Ev (fun n => L_spec_GoodRoleSet_0_16 n x1 (x1.length : Int) (IntKind.wrap .i64 ((k : Int) + 1)) x4) r := by
      intro r h; rw [hw]; exact ih (k + 1) r hr2 h
    rw [P_spec_GoodRoleSet_0_16] at h
    refine Ev.step ?_ (fun n => L_spec_GoodRoleSet_0_16_eq n x1 (x1.length : Int) (k : Int) x4)
    rw [show decide ((k : Int) < (x1.length : Int)) = true from decide_eq_true (by omega), inB_nat2 hk, hx]
    exact Ev.pos rfl (Ev.pos rfl (Ev.ofBind h fun y9 h => (Ev.ofBind h fun y10 h => (Ev.ofBif h (fun h => (Ev.ofSome h)) (fun h => (ih2  _ h))))))
theorem S_spec_GoodRoleSet_0_4 {x1 : (List DRole)} {x4 : DRoleSet} (hl : x1.length ≤ maxLen) : ∀ (rest : List DRole) (k : Nat) (r : Bool), rest = x1.drop k → P_spec_GoodRoleSet_0_4 x4 rest k = some r → Ev (fun n => L_spec_GoodRoleSet_0_4 n x1 (x1.length : Int) (k : Int) x4) r := by
  intro rest
  induction rest with
  | nil =>
    intro k r hr h
    have hk := drop_nil hr
    rw [P_spec_GoodRoleSet_0_4] at h
    refine Ev.step ?_ (fun n => L_spec_GoodRoleSet_0_4_eq n x1 (x1.length : Int) (k : Int) x4)
    rw [show decide ((k : Int) < (x1.length : Int)) = false from decide_eq_false (by omega)]
    exact Ev.neg rfl (Ev.ofLen h fun hl h => S_spec_GoodRoleSet_0_16 hl _ (0 : Nat) _ rfl h)
  | cons e rest ih =>
    intro k r hr h
    obtain ⟨hk, hx, hr2⟩ := drop_cons (d := (Ty.dflt TyRole)) hr
    have hw := wrap_succ hl hk
    have ih2 : ∀ (r : Bool), P_spec_GoodRoleSet_0_4 x4 rest (k + 1) = some r → Ev (fun n => L_spec_GoodRoleSet_0_4 n x1 (x1.length : Int) (IntKind.wrap .i64 ((k : Int) + 1)) x4) r := by
      intro r h; rw [hw]; exact ih (k + 1) r hr2 h
    rw [P_spec_GoodRoleSet_0_4] at h
    refine Ev.step ?_ (fun n => L_spec_GoodRoleSet_0_4_eq n x1 (x1.length : Int) (k : Int) x4)
    rw [show decide ((k : Int) < (x1.length : Int)) = true from decide_eq_true (by omega), inB_nat2 hk, hx]
    exact Ev.pos rfl (Ev.pos rfl (Ev.ofBind h fun y2 h => (Ev.ofBif h (fun h => (Ev.ofSome h)) (fun h => (Ev.ofBif h (fun h => (Ev.ofBif h (fun h => (Ev.ofBind h fun y3 h => (Ev.ofBif h (fun h => (Ev.ofSome h)) (fun h => (Ev.ofBind h fun y4 h => (Ev.ofBif h (fun h => (Ev.ofSome h)) (fun h => (Ev.ofBif h (fun h => (Ev.ofSome h)) (fun h => (Ev.ofBind h fun y5 h => (Ev.ofBif h (fun h => (Ev.ofSome h)) (fun h => (Ev.ofLen h fun hl h => S_spec_GoodRoleSet_0_9 hl ih2 _ (0 : Nat) _ rfl h))))))))))))) (fun h => (Ev.ofNone h)))) (fun h => (Ev.ofBind h fun y7 h => (Ev.ofBif h (fun h => (Ev.ofSome h)) (fun h => (Ev.ofBif h (fun h => (Ev.ofSome h)) (fun h => (Ev.ofBind h fun y8 h => (Ev.ofBif h (fun h => (Ev.ofSome h)) (fun h => (Ev.ofLen h fun hl h => S_spec_GoodRoleSet_0_9 hl ih2 _ (0 : Nat) _ rfl h)))))))))))))))
theorem S_spec_GoodRoleSet (a0 : DRoleSet) {r : Bool} (h : P_spec_GoodRoleSet a0 = some r) : Ev (fun n => F_spec_GoodRoleSet n a0) r := by
  rw [P_spec_GoodRoleSet] at h
  refine Ev.of_eq ?_ (fun n => F_spec_GoodRoleSet_eq n a0)
  exact (Ev.ofBif h (fun h => (Ev.ofSome h)) (fun h => (Ev.ofBif h (fun h => (Ev.ofSome h)) (fun h => (Ev.ofBind h fun y1 h => (Ev.ofBif h (fun h => (Ev.ofSome h)) (fun h => (Ev.ofLen h fun hl h => S_spec_GoodRoleSet_0_4 hl _ (0 : Nat) _ rfl h))))))))
theorem hcs_spec_GoodRoleSet : ∀ x ∈ cs_spec_GoodRoleSet, CtrOk Tryz.prog x := (conOf_cons ok_spec_l15All (conOf_cons ok_spec_GoodName (conOf_cons ok_spec_l1CmpText (conOf_cons ok_spec_l3Rising (conOf_cons ok_spec_l15Under (conOf_cons ok_spec_l3Has conOf_nil))))))
theorem ok_spec_GoodRoleSet : CtrOk Tryz.prog (c_spec_GoodRoleSet) := by
  refine ctr_of_run (c := c_spec_GoodRoleSet) (by kernel_rfl) (by kernel_rfl : Tryz.prog.funcs[23]? = some Tryz.f23) (code := Tryz.f23.body.getD .skip) (by kernel_rfl) (by kernel_rfl) (by kernel_rfl) (A := A_spec_GoodRoleSet) (I := In_spec_GoodRoleSet) (hcs_spec_GoodRoleSet) ?_
  rintro ⟨a0, u⟩ y hy
  exact (S_spec_GoodRoleSet a0 hy).get

/-! ## spec.l15Small (24) -/
noncomputable def P_spec_l15Small_0_8 (x1 : Int) : List DRoleGrant → Option Bool
  | [] =>
      some (decide (x1 ≤ 300))
  | e :: rest =>
      bif decide ((((((e).2).2).2).2).1 < 0) then
        some false
      else
        bif decide ((2 : Int) < (((((e).2).2).2).2).1) then
          some false
        else
          P_spec_l15Small_0_8 x1 rest
noncomputable def P_spec_l15Small_0_3 (x5 : DRoleState) : List DRoleSession → Int → Option Bool
  | [], x1 =>
      lenOk x5.2.1 (P_spec_l15Small_0_8 x1 x5.2.1)
  | e :: rest, x1 =>
      P_spec_l15Small_0_3 x5 rest (IntKind.wrap .i64 (x1 + (IntKind.wrap .i64 ((((((e).2).2).1).length : Int) + ((((((e).2).2).2).1).length : Int)))))
noncomputable def P_spec_l15Small (a0 : DRoleState) : Option Bool :=
  lenOk a0.2.2.1 (P_spec_l15Small_0_3 a0 a0.2.2.1 (IntKind.wrap .i64 ((a0.2.1.length : Int) + (a0.2.2.1.length : Int))))
noncomputable def c_spec_l15Small : Ctr := ⟨24, [TyRoleState], [.bool], fun x => P_spec_l15Small x.1⟩
def A_spec_l15Small : List (List Nat × Ann) := [([0, 3], [.keep 0 1, .keep 0 3, .keep 0 16, .keep 0 17, .keep 0 18, .boxd 0 1 TyRoleState]), ([0, 8], [.keep 0 3, .keep 0 33, .keep 0 34, .keep 0 35])]
def In_spec_l15Small : List (List Nat × Nat) := []
noncomputable def cs_spec_l15Small : List Ctr := []
noncomputable def F_spec_l15Small (n : Nat) (a0 : DRoleState) : Option Bool := run Tryz.prog A_spec_l15Small In_spec_l15Small (conOf cs_spec_l15Small) Tryz.f24 (Tryz.f24.body.getD .skip) (packT [.bool]) n (argsV [TyRoleState] (a0, ()))
noncomputable abbrev L_spec_l15Small_0_3 (n : Nat) (x1 : Int) (x2 : (List DRoleSession)) (x3 : Int) (x4 : Int) (x5 : DRoleState) : Option Bool := lam Tryz.prog A_spec_l15Small In_spec_l15Small (conOf cs_spec_l15Small) Tryz.f24 (Tryz.f24.body.getD .skip) (packT [.bool]) n [0, 3] [.ptr 0 1 0, .d I64 x1, .d (.list TyRoleSession) x2, .d I64 x3, .d I64 x4, .agg (explode TyRoleState x5)]
noncomputable abbrev L_spec_l15Small_0_8 (n : Nat) (x1 : Int) (x2 : (List DRoleGrant)) (x3 : Int) (x4 : Int) : Option Bool := lam Tryz.prog A_spec_l15Small In_spec_l15Small (conOf cs_spec_l15Small) Tryz.f24 (Tryz.f24.body.getD .skip) (packT [.bool]) n [0, 8] [.d I64 x1, .d (.list TyRoleGrant) x2, .d I64 x3, .d I64 x4]
theorem F_spec_l15Small_eq (n : Nat) (a0 : DRoleState) : F_spec_l15Small n a0 =
    L_spec_l15Small_0_3 n (IntKind.wrap .i64 ((a0.2.1.length : Int) + (a0.2.2.1.length : Int))) a0.2.2.1 (a0.2.2.1.length : Int) 0 a0 := by kernel_rfl
theorem L_spec_l15Small_0_3_eq (n : Nat) (x1 : Int) (x2 : (List DRoleSession)) (x3 : Int) (x4 : Int) (x5 : DRoleState) : L_spec_l15Small_0_3 (n + 1) x1 x2 x3 x4 x5 =
    bif decide (x4 < x3) then
      bif inB x4 x2.length then
        L_spec_l15Small_0_3 n (IntKind.wrap .i64 (x1 + (IntKind.wrap .i64 ((((((rd x2 x4 (Ty.dflt TyRoleSession)).2).2).1).length : Int) + ((((((rd x2 x4 (Ty.dflt TyRoleSession)).2).2).2).1).length : Int))))) x2 x3 (IntKind.wrap .i64 (x4 + 1)) x5
      else none
    else
      L_spec_l15Small_0_8 n x1 x5.2.1 (x5.2.1.length : Int) 0 := by kernel_rfl
theorem L_spec_l15Small_0_8_eq (n : Nat) (x1 : Int) (x2 : (List DRoleGrant)) (x3 : Int) (x4 : Int) : L_spec_l15Small_0_8 (n + 1) x1 x2 x3 x4 =
    bif decide (x4 < x3) then
      bif inB x4 x2.length then
        bif decide ((((((rd x2 x4 (Ty.dflt TyRoleGrant)).2).2).2).2).1 < 0) then
          some false
        else
          bif decide ((2 : Int) < (((((rd x2 x4 (Ty.dflt TyRoleGrant)).2).2).2).2).1) then
            some false
          else
            L_spec_l15Small_0_8 n x1 x2 x3 (IntKind.wrap .i64 (x4 + 1))
      else none
    else
      some (decide (x1 ≤ 300)) := by kernel_rfl
theorem S_spec_l15Small_0_8 {x1 : Int} {x2 : (List DRoleGrant)} (hl : x2.length ≤ maxLen) : ∀ (rest : List DRoleGrant) (k : Nat) (r : Bool), rest = x2.drop k → P_spec_l15Small_0_8 x1 rest = some r → Ev (fun n => L_spec_l15Small_0_8 n x1 x2 (x2.length : Int) (k : Int)) r := by
  intro rest
  induction rest with
  | nil =>
    intro k r hr h
    have hk := drop_nil hr
    rw [P_spec_l15Small_0_8] at h
    refine Ev.step ?_ (fun n => L_spec_l15Small_0_8_eq n x1 x2 (x2.length : Int) (k : Int))
    rw [show decide ((k : Int) < (x2.length : Int)) = false from decide_eq_false (by omega)]
    exact Ev.neg rfl (Ev.ofSome h)
  | cons e rest ih =>
    intro k r hr h
    obtain ⟨hk, hx, hr2⟩ := drop_cons (d := (Ty.dflt TyRoleGrant)) hr
    have hw := wrap_succ hl hk
    have ih2 : ∀ (r : Bool), P_spec_l15Small_0_8 x1 rest = some r → Ev (fun n => L_spec_l15Small_0_8 n x1 x2 (x2.length : Int) (IntKind.wrap .i64 ((k : Int) + 1))) r := by
      intro r h; rw [hw]; exact ih (k + 1) r hr2 h
    rw [P_spec_l15Small_0_8] at h
    refine Ev.step ?_ (fun n => L_spec_l15Small_0_8_eq n x1 x2 (x2.length : Int) (k : Int))
    rw [show decide ((k : Int) < (x2.length : Int)) = true from decide_eq_true (by omega), inB_nat2 hk, hx]
    exact Ev.pos rfl (Ev.pos rfl (Ev.ofBif h (fun h => (Ev.ofSome h)) (fun h => (Ev.ofBif h (fun h => (Ev.ofSome h)) (fun h => (ih2  _ h))))))
theorem S_spec_l15Small_0_3 {x2 : (List DRoleSession)} {x5 : DRoleState} (hl : x2.length ≤ maxLen) : ∀ (rest : List DRoleSession) (k : Nat) (x1 : Int) (r : Bool), rest = x2.drop k → P_spec_l15Small_0_3 x5 rest x1 = some r → Ev (fun n => L_spec_l15Small_0_3 n x1 x2 (x2.length : Int) (k : Int) x5) r := by
  intro rest
  induction rest with
  | nil =>
    intro k x1 r hr h
    have hk := drop_nil hr
    rw [P_spec_l15Small_0_3] at h
    refine Ev.step ?_ (fun n => L_spec_l15Small_0_3_eq n x1 x2 (x2.length : Int) (k : Int) x5)
    rw [show decide ((k : Int) < (x2.length : Int)) = false from decide_eq_false (by omega)]
    exact Ev.neg rfl (Ev.ofLen h fun hl h => S_spec_l15Small_0_8 hl _ (0 : Nat) _ rfl h)
  | cons e rest ih =>
    intro k x1 r hr h
    obtain ⟨hk, hx, hr2⟩ := drop_cons (d := (Ty.dflt TyRoleSession)) hr
    have hw := wrap_succ hl hk
    have ih2 : ∀ (z1 : Int) (r : Bool), P_spec_l15Small_0_3 x5 rest z1 = some r → Ev (fun n => L_spec_l15Small_0_3 n z1 x2 (x2.length : Int) (IntKind.wrap .i64 ((k : Int) + 1)) x5) r := by
      intro z1 r h; rw [hw]; exact ih (k + 1) z1 r hr2 h
    rw [P_spec_l15Small_0_3] at h
    refine Ev.step ?_ (fun n => L_spec_l15Small_0_3_eq n x1 x2 (x2.length : Int) (k : Int) x5)
    rw [show decide ((k : Int) < (x2.length : Int)) = true from decide_eq_true (by omega), inB_nat2 hk, hx]
    exact Ev.pos rfl (Ev.pos rfl (ih2 _ _ h))
theorem S_spec_l15Small (a0 : DRoleState) {r : Bool} (h : P_spec_l15Small a0 = some r) : Ev (fun n => F_spec_l15Small n a0) r := by
  rw [P_spec_l15Small] at h
  refine Ev.of_eq ?_ (fun n => F_spec_l15Small_eq n a0)
  exact (Ev.ofLen h fun hl h => S_spec_l15Small_0_3 hl _ (0 : Nat) _ _ rfl h)
theorem hcs_spec_l15Small : ∀ x ∈ cs_spec_l15Small, CtrOk Tryz.prog x := conOf_nil
theorem ok_spec_l15Small : CtrOk Tryz.prog (c_spec_l15Small) := by
  refine ctr_of_run (c := c_spec_l15Small) (by kernel_rfl) (by kernel_rfl : Tryz.prog.funcs[24]? = some Tryz.f24) (code := Tryz.f24.body.getD .skip) (by kernel_rfl) (by kernel_rfl) (by kernel_rfl) (A := A_spec_l15Small) (I := In_spec_l15Small) (hcs_spec_l15Small) ?_
  rintro ⟨a0, u⟩ y hy
  exact (S_spec_l15Small a0 hy).get

/-! ## spec.l15Lesser (76) -/
noncomputable def T_spec_l15Lesser (a0 : Int) (a1 : Int) : Int :=
  bif decide (a0 < a1) then
    a0
  else
    a1
noncomputable def c_spec_l15Lesser : Ctr := ⟨76, [I64, I64], [I64], fun x => some (T_spec_l15Lesser x.1 x.2.1)⟩
def A_spec_l15Lesser : List (List Nat × Ann) := []
def In_spec_l15Lesser : List (List Nat × Nat) := []
noncomputable def cs_spec_l15Lesser : List Ctr := []
noncomputable def F_spec_l15Lesser (n : Nat) (a0 : Int) (a1 : Int) : Option Int := run Tryz.prog A_spec_l15Lesser In_spec_l15Lesser (conOf cs_spec_l15Lesser) Tryz.f76 (Tryz.f76.body.getD .skip) (packT [I64]) n (argsV [I64, I64] (a0, a1, ()))
theorem F_spec_l15Lesser_eq (n : Nat) (a0 : Int) (a1 : Int) : F_spec_l15Lesser n a0 a1 =
    bif decide (a0 < a1) then
      some a0
    else
      some a1 := by kernel_rfl
theorem S_spec_l15Lesser (n : Nat) (a0 : Int) (a1 : Int) : F_spec_l15Lesser n a0 a1 = some (T_spec_l15Lesser a0 a1) := (F_spec_l15Lesser_eq n a0 a1).trans (cond_some rfl rfl)
theorem hcs_spec_l15Lesser : ∀ x ∈ cs_spec_l15Lesser, CtrOk Tryz.prog x := conOf_nil
theorem ok_spec_l15Lesser : CtrOk Tryz.prog (c_spec_l15Lesser) := by
  refine ctr_of_run (c := c_spec_l15Lesser) (by kernel_rfl) (by kernel_rfl : Tryz.prog.funcs[76]? = some Tryz.f76) (code := Tryz.f76.body.getD .skip) (by kernel_rfl) (by kernel_rfl) (by kernel_rfl) (A := A_spec_l15Lesser) (I := In_spec_l15Lesser) (hcs_spec_l15Lesser) ?_
  rintro ⟨a0, a1, u⟩ y hy
  exact ⟨0, (S_spec_l15Lesser 0 a0 a1).trans hy⟩

/-! ## spec.l15Counts (57) -/
noncomputable def P_spec_l15Counts_0_2 (Rc : (List DRoleGrant) → (List Int) → (List Int) → Int → Int → Option Bool) (x1 : (List DRoleGrant)) (x2 : (List Int)) (x3 : (List Int)) (x4 : Int) (x5 : Int) : List DRoleGrant → Option Bool
  | [] =>
      some false
  | e :: rest =>
      bif decide ((e).1 = x2) then
        bif decide (((e).2).1 = x3) then
          bif decide ((((((e).2).2).2).2).1 < x4) then
            bif decide (x5 ≤ ((((e).2).2).2).1) then
              bif decide ((((e).2).2).1 = ([] : List Int)) then
                some true
              else
                Option.bind (Rc x1 ((((e).2).2).1) x3 (T_spec_l15Lesser ((((((e).2).2).2).2).1) x4) x5) fun (y1 : Bool) =>
                bif y1 then
                  some true
                else
                  P_spec_l15Counts_0_2 Rc x1 x2 x3 x4 x5 rest
            else
              P_spec_l15Counts_0_2 Rc x1 x2 x3 x4 x5 rest
          else
            P_spec_l15Counts_0_2 Rc x1 x2 x3 x4 x5 rest
        else
          P_spec_l15Counts_0_2 Rc x1 x2 x3 x4 x5 rest
      else
        P_spec_l15Counts_0_2 Rc x1 x2 x3 x4 x5 rest
noncomputable def P_spec_l15Counts (Rc : (List DRoleGrant) → (List Int) → (List Int) → Int → Int → Option Bool) (a0 : (List DRoleGrant)) (a1 : (List Int)) (a2 : (List Int)) (a3 : Int) (a4 : Int) : Option Bool :=
  lenOk a0 (P_spec_l15Counts_0_2 Rc a0 a1 a2 a3 a4 a0)
noncomputable def R_spec_l15Counts : Nat → (List DRoleGrant) → (List Int) → (List Int) → Int → Int → Option Bool
  | 0 => fun _ _ _ _ _ => none
  | d + 1 => fun a0 a1 a2 a3 a4 => P_spec_l15Counts (R_spec_l15Counts d) a0 a1 a2 a3 a4
noncomputable def E_spec_l15Counts (a0 : (List DRoleGrant)) (a1 : (List Int)) (a2 : (List Int)) (a3 : Int) (a4 : Int) : Option Bool := evOpt fun d => R_spec_l15Counts d a0 a1 a2 a3 a4
noncomputable def c_spec_l15Counts : Ctr := ⟨57, [(.list TyRoleGrant), .str, .str, I64, I64], [.bool], fun x => E_spec_l15Counts x.1 x.2.1 x.2.2.1 x.2.2.2.1 x.2.2.2.2.1⟩
def A_spec_l15Counts : List (List Nat × Ann) := [([0, 2], [.keep 0 0, .keep 0 1, .keep 0 2, .keep 0 3, .keep 0 4, .keep 0 13, .keep 0 14, .keep 0 15])]
def In_spec_l15Counts : List (List Nat × Nat) := []
noncomputable def cs_spec_l15Counts (Rc : (List DRoleGrant) → (List Int) → (List Int) → Int → Int → Option Bool) : List Ctr := [c_spec_l15Lesser, ⟨57, [(.list TyRoleGrant), .str, .str, I64, I64], [.bool], fun x => Rc x.1 x.2.1 x.2.2.1 x.2.2.2.1 x.2.2.2.2.1⟩]
noncomputable def F_spec_l15Counts (Rc : (List DRoleGrant) → (List Int) → (List Int) → Int → Int → Option Bool) (n : Nat) (a0 : (List DRoleGrant)) (a1 : (List Int)) (a2 : (List Int)) (a3 : Int) (a4 : Int) : Option Bool := run Tryz.prog A_spec_l15Counts In_spec_l15Counts (conOf (cs_spec_l15Counts Rc)) Tryz.f57 (Tryz.f57.body.getD .skip) (packT [.bool]) n (argsV [(.list TyRoleGrant), .str, .str, I64, I64] (a0, a1, a2, a3, a4, ()))
noncomputable abbrev L_spec_l15Counts_0_2 (Rc : (List DRoleGrant) → (List Int) → (List Int) → Int → Int → Option Bool) (n : Nat) (x1 : (List DRoleGrant)) (x2 : (List Int)) (x3 : (List Int)) (x4 : Int) (x5 : Int) (x6 : (List DRoleGrant)) (x7 : Int) (x8 : Int) : Option Bool := lam Tryz.prog A_spec_l15Counts In_spec_l15Counts (conOf (cs_spec_l15Counts Rc)) Tryz.f57 (Tryz.f57.body.getD .skip) (packT [.bool]) n [0, 2] [.d (.list TyRoleGrant) x1, .d .str x2, .d .str x3, .d I64 x4, .d I64 x5, .d (.list TyRoleGrant) x6, .d I64 x7, .d I64 x8]
theorem F_spec_l15Counts_eq (Rc : (List DRoleGrant) → (List Int) → (List Int) → Int → Int → Option Bool) (n : Nat) (a0 : (List DRoleGrant)) (a1 : (List Int)) (a2 : (List Int)) (a3 : Int) (a4 : Int) : F_spec_l15Counts Rc n a0 a1 a2 a3 a4 =
    L_spec_l15Counts_0_2 Rc n a0 a1 a2 a3 a4 a0 (a0.length : Int) 0 := by kernel_rfl
theorem L_spec_l15Counts_0_2_eq (Rc : (List DRoleGrant) → (List Int) → (List Int) → Int → Int → Option Bool) (n : Nat) (x1 : (List DRoleGrant)) (x2 : (List Int)) (x3 : (List Int)) (x4 : Int) (x5 : Int) (x6 : (List DRoleGrant)) (x7 : Int) (x8 : Int) : L_spec_l15Counts_0_2 Rc (n + 1) x1 x2 x3 x4 x5 x6 x7 x8 =
    bif decide (x8 < x7) then
      bif inB x8 x6.length then
        bif decide ((rd x6 x8 (Ty.dflt TyRoleGrant)).1 = x2) then
          bif decide (((rd x6 x8 (Ty.dflt TyRoleGrant)).2).1 = x3) then
            bif decide ((((((rd x6 x8 (Ty.dflt TyRoleGrant)).2).2).2).2).1 < x4) then
              bif decide (x5 ≤ ((((rd x6 x8 (Ty.dflt TyRoleGrant)).2).2).2).1) then
                bif decide ((((rd x6 x8 (Ty.dflt TyRoleGrant)).2).2).1 = ([] : List Int)) then
                  some true
                else
                  Option.bind (Rc x1 ((((rd x6 x8 (Ty.dflt TyRoleGrant)).2).2).1) x3 (T_spec_l15Lesser ((((((rd x6 x8 (Ty.dflt TyRoleGrant)).2).2).2).2).1) x4) x5) fun (y1 : Bool) =>
                  bif y1 then
                    some true
                  else
                    L_spec_l15Counts_0_2 Rc n x1 x2 x3 x4 x5 x6 x7 (IntKind.wrap .i64 (x8 + 1))
              else
                L_spec_l15Counts_0_2 Rc n x1 x2 x3 x4 x5 x6 x7 (IntKind.wrap .i64 (x8 + 1))
            else
              L_spec_l15Counts_0_2 Rc n x1 x2 x3 x4 x5 x6 x7 (IntKind.wrap .i64 (x8 + 1))
          else
            L_spec_l15Counts_0_2 Rc n x1 x2 x3 x4 x5 x6 x7 (IntKind.wrap .i64 (x8 + 1))
        else
          L_spec_l15Counts_0_2 Rc n x1 x2 x3 x4 x5 x6 x7 (IntKind.wrap .i64 (x8 + 1))
      else none
    else
      some false := by kernel_rfl
theorem S_spec_l15Counts_0_2 {Rc : (List DRoleGrant) → (List Int) → (List Int) → Int → Int → Option Bool} {x1 : (List DRoleGrant)} {x2 : (List Int)} {x3 : (List Int)} {x4 : Int} {x5 : Int} (hl : x1.length ≤ maxLen) : ∀ (rest : List DRoleGrant) (k : Nat) (r : Bool), rest = x1.drop k → P_spec_l15Counts_0_2 Rc x1 x2 x3 x4 x5 rest = some r → Ev (fun n => L_spec_l15Counts_0_2 Rc n x1 x2 x3 x4 x5 x1 (x1.length : Int) (k : Int)) r := by
  intro rest
  induction rest with
  | nil =>
    intro k r hr h
    have hk := drop_nil hr
    rw [P_spec_l15Counts_0_2] at h
    refine Ev.step ?_ (fun n => L_spec_l15Counts_0_2_eq Rc n x1 x2 x3 x4 x5 x1 (x1.length : Int) (k : Int))
    rw [show decide ((k : Int) < (x1.length : Int)) = false from decide_eq_false (by omega)]
    exact Ev.neg rfl (Ev.ofSome h)
  | cons e rest ih =>
    intro k r hr h
    obtain ⟨hk, hx, hr2⟩ := drop_cons (d := (Ty.dflt TyRoleGrant)) hr
    have hw := wrap_succ hl hk
    have ih2 : ∀ (r : Bool), P_spec_l15Counts_0_2 Rc x1 x2 x3 x4 x5 rest = some r → Ev (fun n => L_spec_l15Counts_0_2 Rc n x1 x2 x3 x4 x5 x1 (x1.length : Int) (IntKind.wrap .i64 ((k : Int) + 1))) r := by
      intro r h; rw [hw]; exact ih (k + 1) r hr2 h
    rw [P_spec_l15Counts_0_2] at h
    refine Ev.step ?_ (fun n => L_spec_l15Counts_0_2_eq Rc n x1 x2 x3 x4 x5 x1 (x1.length : Int) (k : Int))
    rw [show decide ((k : Int) < (x1.length : Int)) = true from decide_eq_true (by omega), inB_nat2 hk, hx]
    exact Ev.pos rfl (Ev.pos rfl (Ev.ofBif h (fun h => (Ev.ofBif h (fun h => (Ev.ofBif h (fun h => (Ev.ofBif h (fun h => (Ev.ofBif h (fun h => (Ev.ofSome h)) (fun h => (Ev.ofBind h fun y1 h => (Ev.ofBif h (fun h => (Ev.ofSome h)) (fun h => (ih2  _ h))))))) (fun h => (ih2  _ h)))) (fun h => (ih2  _ h)))) (fun h => (ih2  _ h)))) (fun h => (ih2  _ h))))
theorem S_spec_l15Counts {Rc : (List DRoleGrant) → (List Int) → (List Int) → Int → Int → Option Bool} (a0 : (List DRoleGrant)) (a1 : (List Int)) (a2 : (List Int)) (a3 : Int) (a4 : Int) {r : Bool} (h : P_spec_l15Counts Rc a0 a1 a2 a3 a4 = some r) : Ev (fun n => F_spec_l15Counts Rc n a0 a1 a2 a3 a4) r := by
  rw [P_spec_l15Counts] at h
  refine Ev.of_eq ?_ (fun n => F_spec_l15Counts_eq Rc n a0 a1 a2 a3 a4)
  exact (Ev.ofLen h fun hl h => S_spec_l15Counts_0_2 hl _ (0 : Nat) _ rfl h)
theorem okR_spec_l15Counts : ∀ d, CtrOk Tryz.prog (⟨57, [(.list TyRoleGrant), .str, .str, I64, I64], [.bool], fun x => R_spec_l15Counts d x.1 x.2.1 x.2.2.1 x.2.2.2.1 x.2.2.2.2.1⟩ : Ctr) := by
  intro d
  induction d with
  | zero => intro xs y hy; exact (nomatch (show (none : Option Bool) = some y from hy))
  | succ d ih =>
    refine ctr_of_run (by kernel_rfl) (by kernel_rfl : Tryz.prog.funcs[57]? = some Tryz.f57) (code := Tryz.f57.body.getD .skip) (by kernel_rfl) (by kernel_rfl) (by kernel_rfl) (A := A_spec_l15Counts) (I := In_spec_l15Counts) (cs := cs_spec_l15Counts (R_spec_l15Counts d)) (conOf_cons ok_spec_l15Lesser (conOf_cons ih conOf_nil)) ?_
    rintro ⟨a0, a1, a2, a3, a4, u⟩ y hy
    exact (S_spec_l15Counts a0 a1 a2 a3 a4 hy).get
theorem ok_spec_l15Counts : CtrOk Tryz.prog (c_spec_l15Counts) := by
  rintro ⟨a0, a1, a2, a3, a4, u⟩ y hy
  obtain ⟨d, hd⟩ := (evOpt_get hy).get
  exact okR_spec_l15Counts d (a0, a1, a2, a3, a4, u) y hd

/-! ## spec.l15Authorised (25) -/
noncomputable def P_spec_l15Authorised_1_7 (K0 : (List (List Int)) → Option (List (List Int))) (x1 : (List DRoleGrant)) (x3 : Int) (x4 : Bool) (x5 : (List (List Int))) (x10 : DRoleGrant) : Option (List (List Int)) :=
  bif x4 then
    bif decide (((x5.length : Int) + (([x10.2.1] : List (List Int)).length : Int)) * 16 ≤ room) && decide ((x5.length : Int) + (([x10.2.1] : List (List Int)).length : Int) ≤ room) then
      K0 (x5 ++ ([x10.2.1] : List (List Int)))
    else none
  else
    bif decide (x10.2.2.1 = ([] : List Int)) then
      bif decide (((x5.length : Int) + (([x10.2.1] : List (List Int)).length : Int)) * 16 ≤ room) && decide ((x5.length : Int) + (([x10.2.1] : List (List Int)).length : Int) ≤ room) then
        K0 (x5 ++ ([x10.2.1] : List (List Int)))
      else none
    else
      Option.bind (E_spec_l15Counts x1 x10.2.2.1 x10.2.1 x10.2.2.2.2.1 x3) fun (y2 : Bool) =>
      bif y2 then
        bif decide (((x5.length : Int) + (([x10.2.1] : List (List Int)).length : Int)) * 16 ≤ room) && decide ((x5.length : Int) + (([x10.2.1] : List (List Int)).length : Int) ≤ room) then
          K0 (x5 ++ ([x10.2.1] : List (List Int)))
        else none
      else
        K0 x5
noncomputable def P_spec_l15Authorised_0_3 (x1 : (List DRoleGrant)) (x2 : (List Int)) (x3 : Int) (x4 : Bool) (x9 : DRoleSet) : List DRoleGrant → (List (List Int)) → Option (List (List Int))
  | [], x5 =>
      Option.bind (E_spec_l15Under x9 x5) fun (y3 : (List (List Int))) =>
      some y3
  | e :: rest, x5 =>
      Option.bind (P_spec_l15Role x9 (((e).2).1)) fun (y1 : (DRole × Bool)) =>
      bif !(y1.2) then
        P_spec_l15Authorised_0_3 x1 x2 x3 x4 x9 rest x5
      else
        bif !decide ((e).1 = x2) then
          P_spec_l15Authorised_0_3 x1 x2 x3 x4 x9 rest x5
        else
          bif decide (((((e).2).2).2).1 < x3) then
            P_spec_l15Authorised_0_3 x1 x2 x3 x4 x9 rest x5
          else
            P_spec_l15Authorised_1_7 (fun s0 => P_spec_l15Authorised_0_3 x1 x2 x3 x4 x9 rest s0) x1 x3 x4 x5 (e)
noncomputable def P_spec_l15Authorised (a0 : DRoleSet) (a1 : (List DRoleGrant)) (a2 : (List Int)) (a3 : Int) (a4 : Bool) : Option (List (List Int)) :=
  lenOk a1 (P_spec_l15Authorised_0_3 a1 a2 a3 a4 a0 a1 [])
noncomputable def c_spec_l15Authorised : Ctr := ⟨25, [TyRoleSet, (.list TyRoleGrant), .str, I64, .bool], [(.list .str)], fun x => P_spec_l15Authorised x.1 x.2.1 x.2.2.1 x.2.2.2.1 x.2.2.2.2.1⟩
def A_spec_l15Authorised : List (List Nat × Ann) := [([0, 3], [.keep 0 1, .keep 0 2, .keep 0 3, .keep 0 4, .keep 0 5, .own 0 11 .str, .keep 0 16, .keep 0 17, .keep 0 18, .boxd 0 5 TyRoleSet]), ([1, 7], [.keep 0 1, .keep 0 2, .keep 0 3, .keep 0 4, .keep 0 5, .own 0 11 .str, .keep 0 13, .keep 0 16, .keep 0 17, .keep 0 18, .boxd 0 5 TyRoleSet, .boxd 0 13 TyRoleGrant])]
def In_spec_l15Authorised : List (List Nat × Nat) := []
noncomputable def cs_spec_l15Authorised : List Ctr := [c_spec_l15Role, c_spec_l15Counts, c_spec_l15Under]
noncomputable def F_spec_l15Authorised (n : Nat) (a0 : DRoleSet) (a1 : (List DRoleGrant)) (a2 : (List Int)) (a3 : Int) (a4 : Bool) : Option (List (List Int)) := run Tryz.prog A_spec_l15Authorised In_spec_l15Authorised (conOf cs_spec_l15Authorised) Tryz.f25 (Tryz.f25.body.getD .skip) (packT [(.list .str)]) n (argsV [TyRoleSet, (.list TyRoleGrant), .str, I64, .bool] (a0, a1, a2, a3, a4, ()))
noncomputable abbrev L_spec_l15Authorised_0_3 (n : Nat) (x1 : (List DRoleGrant)) (x2 : (List Int)) (x3 : Int) (x4 : Bool) (x5 : (List (List Int))) (x6 : (List DRoleGrant)) (x7 : Int) (x8 : Int) (x9 : DRoleSet) : Option (List (List Int)) := lam Tryz.prog A_spec_l15Authorised In_spec_l15Authorised (conOf cs_spec_l15Authorised) Tryz.f25 (Tryz.f25.body.getD .skip) (packT [(.list .str)]) n [0, 3] [.d (.list TyRoleGrant) x1, .d .str x2, .d I64 x3, .d .bool x4, .ptr 0 5 0, .own 0 .str x5, .d (.list TyRoleGrant) x6, .d I64 x7, .d I64 x8, .agg (explode TyRoleSet x9)]
noncomputable abbrev L_spec_l15Authorised_1_7 (n : Nat) (x1 : (List DRoleGrant)) (x2 : (List Int)) (x3 : Int) (x4 : Bool) (x5 : (List (List Int))) (x6 : (List DRoleGrant)) (x7 : Int) (x8 : Int) (x9 : DRoleSet) (x10 : DRoleGrant) : Option (List (List Int)) := lam Tryz.prog A_spec_l15Authorised In_spec_l15Authorised (conOf cs_spec_l15Authorised) Tryz.f25 (Tryz.f25.body.getD .skip) (packT [(.list .str)]) n [1, 7] [.d (.list TyRoleGrant) x1, .d .str x2, .d I64 x3, .d .bool x4, .ptr 0 5 0, .own 0 .str x5, .ptr 0 13 0, .d (.list TyRoleGrant) x6, .d I64 x7, .d I64 x8, .agg (explode TyRoleSet x9), .agg (explode TyRoleGrant x10)]
theorem F_spec_l15Authorised_eq (n : Nat) (a0 : DRoleSet) (a1 : (List DRoleGrant)) (a2 : (List Int)) (a3 : Int) (a4 : Bool) : F_spec_l15Authorised n a0 a1 a2 a3 a4 =
    L_spec_l15Authorised_0_3 n a1 a2 a3 a4 [] a1 (a1.length : Int) 0 a0 := by kernel_rfl
theorem L_spec_l15Authorised_0_3_eq (n : Nat) (x1 : (List DRoleGrant)) (x2 : (List Int)) (x3 : Int) (x4 : Bool) (x5 : (List (List Int))) (x6 : (List DRoleGrant)) (x7 : Int) (x8 : Int) (x9 : DRoleSet) : L_spec_l15Authorised_0_3 (n + 1) x1 x2 x3 x4 x5 x6 x7 x8 x9 =
    bif decide (x8 < x7) then
      bif inB x8 x6.length then
        Option.bind (P_spec_l15Role x9 (((rd x6 x8 (Ty.dflt TyRoleGrant)).2).1)) fun (y1 : (DRole × Bool)) =>
        bif !(y1.2) then
          L_spec_l15Authorised_0_3 n x1 x2 x3 x4 x5 x6 x7 (IntKind.wrap .i64 (x8 + 1)) x9
        else
          bif !decide ((rd x6 x8 (Ty.dflt TyRoleGrant)).1 = x2) then
            L_spec_l15Authorised_0_3 n x1 x2 x3 x4 x5 x6 x7 (IntKind.wrap .i64 (x8 + 1)) x9
          else
            bif decide (((((rd x6 x8 (Ty.dflt TyRoleGrant)).2).2).2).1 < x3) then
              L_spec_l15Authorised_0_3 n x1 x2 x3 x4 x5 x6 x7 (IntKind.wrap .i64 (x8 + 1)) x9
            else
              L_spec_l15Authorised_1_7 n x1 x2 x3 x4 x5 x6 x7 x8 x9 (rd x6 x8 (Ty.dflt TyRoleGrant))
      else none
    else
      Option.bind (E_spec_l15Under x9 x5) fun (y3 : (List (List Int))) =>
      some y3 := by kernel_rfl
theorem L_spec_l15Authorised_1_7_eq (n : Nat) (x1 : (List DRoleGrant)) (x2 : (List Int)) (x3 : Int) (x4 : Bool) (x5 : (List (List Int))) (x6 : (List DRoleGrant)) (x7 : Int) (x8 : Int) (x9 : DRoleSet) (x10 : DRoleGrant) : L_spec_l15Authorised_1_7 (n + 1) x1 x2 x3 x4 x5 x6 x7 x8 x9 x10 =
    bif x4 then
      bif decide (((x5.length : Int) + (([x10.2.1] : List (List Int)).length : Int)) * 16 ≤ room) && decide ((x5.length : Int) + (([x10.2.1] : List (List Int)).length : Int) ≤ room) then
        L_spec_l15Authorised_0_3 n x1 x2 x3 x4 (x5 ++ ([x10.2.1] : List (List Int))) x6 x7 (IntKind.wrap .i64 (x8 + 1)) x9
      else none
    else
      bif decide (x10.2.2.1 = ([] : List Int)) then
        bif decide (((x5.length : Int) + (([x10.2.1] : List (List Int)).length : Int)) * 16 ≤ room) && decide ((x5.length : Int) + (([x10.2.1] : List (List Int)).length : Int) ≤ room) then
          L_spec_l15Authorised_0_3 n x1 x2 x3 x4 (x5 ++ ([x10.2.1] : List (List Int))) x6 x7 (IntKind.wrap .i64 (x8 + 1)) x9
        else none
      else
        Option.bind (E_spec_l15Counts x1 x10.2.2.1 x10.2.1 x10.2.2.2.2.1 x3) fun (y2 : Bool) =>
        bif y2 then
          bif decide (((x5.length : Int) + (([x10.2.1] : List (List Int)).length : Int)) * 16 ≤ room) && decide ((x5.length : Int) + (([x10.2.1] : List (List Int)).length : Int) ≤ room) then
            L_spec_l15Authorised_0_3 n x1 x2 x3 x4 (x5 ++ ([x10.2.1] : List (List Int))) x6 x7 (IntKind.wrap .i64 (x8 + 1)) x9
          else none
        else
          L_spec_l15Authorised_0_3 n x1 x2 x3 x4 x5 x6 x7 (IntKind.wrap .i64 (x8 + 1)) x9 := by kernel_rfl
theorem S_spec_l15Authorised_1_7 {K0 : (List (List Int)) → Option (List (List Int))} {x1 : (List DRoleGrant)} {x2 : (List Int)} {x3 : Int} {x4 : Bool} {x5 : (List (List Int))} {x7 : Int} {x8 : Int} {x9 : DRoleSet} {x10 : DRoleGrant} (hK0 : ∀ (z5 : (List (List Int))) (r : (List (List Int))), K0 z5 = some r → Ev (fun n => L_spec_l15Authorised_0_3 n x1 x2 x3 x4 z5 x1 x7 (IntKind.wrap .i64 (x8 + 1)) x9) r) {r : (List (List Int))} (h : P_spec_l15Authorised_1_7 K0 x1 x3 x4 x5 x10 = some r) : Ev (fun n => L_spec_l15Authorised_1_7 n x1 x2 x3 x4 x5 x1 x7 x8 x9 x10) r := by
  rw [P_spec_l15Authorised_1_7] at h
  refine Ev.step ?_ (fun n => L_spec_l15Authorised_1_7_eq n x1 x2 x3 x4 x5 x1 x7 x8 x9 x10)
  exact (Ev.ofBif h (fun h => (Ev.ofBif h (fun h => (hK0 _ _ h)) (fun h => (Ev.ofNone h)))) (fun h => (Ev.ofBif h (fun h => (Ev.ofBif h (fun h => (hK0 _ _ h)) (fun h => (Ev.ofNone h)))) (fun h => (Ev.ofBind h fun y2 h => (Ev.ofBif h (fun h => (Ev.ofBif h (fun h => (hK0 _ _ h)) (fun h => (Ev.ofNone h)))) (fun h => (hK0 _ _ h))))))))
theorem S_spec_l15Authorised_0_3 {x1 : (List DRoleGrant)} {x2 : (List Int)} {x3 : Int} {x4 : Bool} {x9 : DRoleSet} (hl : x1.length ≤ maxLen) : ∀ (rest : List DRoleGrant) (k : Nat) (x5 : (List (List Int))) (r : (List (List Int))), rest = x1.drop k → P_spec_l15Authorised_0_3 x1 x2 x3 x4 x9 rest x5 = some r → Ev (fun n => L_spec_l15Authorised_0_3 n x1 x2 x3 x4 x5 x1 (x1.length : Int) (k : Int) x9) r := by
  intro rest
  induction rest with
  | nil =>
    intro k x5 r hr h
    have hk := drop_nil hr
    rw [P_spec_l15Authorised_0_3] at h
    refine Ev.step ?_ (fun n => L_spec_l15Authorised_0_3_eq n x1 x2 x3 x4 x5 x1 (x1.length : Int) (k : Int) x9)
    rw [show decide ((k : Int) < (x1.length : Int)) = false from decide_eq_false (by omega)]
    exact Ev.neg rfl (Ev.ofBind h fun y3 h => (Ev.ofSome h))
  | cons e rest ih =>
    intro k x5 r hr h
    obtain ⟨hk, hx, hr2⟩ := drop_cons (d := (Ty.dflt TyRoleGrant)) hr
    have hw := wrap_succ hl hk
    have ih2 : ∀ (z5 : (List (List Int))) (r : (List (List Int))), P_spec_l15Authorised_0_3 x1 x2 x3 x4 x9 rest z5 = some r → Ev (fun n => L_spec_l15Authorised_0_3 n x1 x2 x3 x4 z5 x1 (x1.length : Int) (IntKind.wrap .i64 ((k : Int) + 1)) x9) r := by
      intro z5 r h; rw [hw]; exact ih (k + 1) z5 r hr2 h
    rw [P_spec_l15Authorised_0_3] at h
    refine Ev.step ?_ (fun n => L_spec_l15Authorised_0_3_eq n x1 x2 x3 x4 x5 x1 (x1.length : Int) (k : Int) x9)
    rw [show decide ((k : Int) < (x1.length : Int)) = true from decide_eq_true (by omega), inB_nat2 hk, hx]
    exact Ev.pos rfl (Ev.pos rfl (Ev.ofBind h fun y1 h => (Ev.ofBif h (fun h => (ih2 _ _ h)) (fun h => (Ev.ofBif h (fun h => (ih2 _ _ h)) (fun h => (Ev.ofBif h (fun h => (ih2 _ _ h)) (fun h => (S_spec_l15Authorised_1_7 ih2 h)))))))))
theorem S_spec_l15Authorised (a0 : DRoleSet) (a1 : (List DRoleGrant)) (a2 : (List Int)) (a3 : Int) (a4 : Bool) {r : (List (List Int))} (h : P_spec_l15Authorised a0 a1 a2 a3 a4 = some r) : Ev (fun n => F_spec_l15Authorised n a0 a1 a2 a3 a4) r := by
  rw [P_spec_l15Authorised] at h
  refine Ev.of_eq ?_ (fun n => F_spec_l15Authorised_eq n a0 a1 a2 a3 a4)
  exact (Ev.ofLen h fun hl h => S_spec_l15Authorised_0_3 hl _ (0 : Nat) _ _ rfl h)
theorem hcs_spec_l15Authorised : ∀ x ∈ cs_spec_l15Authorised, CtrOk Tryz.prog x := (conOf_cons ok_spec_l15Role (conOf_cons ok_spec_l15Counts (conOf_cons ok_spec_l15Under conOf_nil)))
theorem ok_spec_l15Authorised : CtrOk Tryz.prog (c_spec_l15Authorised) := by
  refine ctr_of_run (c := c_spec_l15Authorised) (by kernel_rfl) (by kernel_rfl : Tryz.prog.funcs[25]? = some Tryz.f25) (code := Tryz.f25.body.getD .skip) (by kernel_rfl) (by kernel_rfl) (by kernel_rfl) (A := A_spec_l15Authorised) (I := In_spec_l15Authorised) (hcs_spec_l15Authorised) ?_
  rintro ⟨a0, a1, a2, a3, a4, u⟩ y hy
  exact (S_spec_l15Authorised a0 a1 a2 a3 a4 hy).get

/-! ## spec.Authorised (6) -/
noncomputable def P_spec_Authorised (a0 : DRoleSet) (a1 : DRoleState) (a2 : (List Int)) (a3 : Int) : Option (List (List Int)) :=
  Option.bind (P_spec_GoodRoleSet a0) fun (y1 : Bool) =>
  bif !(y1) then
    some ([])
  else
    bif decide (a3 < a1.2.2.2) then
      some ([])
    else
      Option.bind (P_spec_l15Small a1) fun (y2 : Bool) =>
      bif !(y2) then
        some ([])
      else
        Option.bind (P_spec_l15Authorised a0 a1.2.1 a2 a3 false) fun (y3 : (List (List Int))) =>
        some y3
noncomputable def c_spec_Authorised : Ctr := ⟨6, [TyRoleSet, TyRoleState, .str, I64], [(.list .str)], fun x => P_spec_Authorised x.1 x.2.1 x.2.2.1 x.2.2.2.1⟩
def A_spec_Authorised : List (List Nat × Ann) := []
def In_spec_Authorised : List (List Nat × Nat) := []
noncomputable def cs_spec_Authorised : List Ctr := [c_spec_GoodRoleSet, c_spec_l15Small, c_spec_l15Authorised]
noncomputable def F_spec_Authorised (n : Nat) (a0 : DRoleSet) (a1 : DRoleState) (a2 : (List Int)) (a3 : Int) : Option (List (List Int)) := run Tryz.prog A_spec_Authorised In_spec_Authorised (conOf cs_spec_Authorised) Tryz.f6 (Tryz.f6.body.getD .skip) (packT [(.list .str)]) n (argsV [TyRoleSet, TyRoleState, .str, I64] (a0, a1, a2, a3, ()))
theorem F_spec_Authorised_eq (n : Nat) (a0 : DRoleSet) (a1 : DRoleState) (a2 : (List Int)) (a3 : Int) : F_spec_Authorised n a0 a1 a2 a3 =
    Option.bind (P_spec_GoodRoleSet a0) fun (y1 : Bool) =>
    bif !(y1) then
      some ([])
    else
      bif decide (a3 < a1.2.2.2) then
        some ([])
      else
        Option.bind (P_spec_l15Small a1) fun (y2 : Bool) =>
        bif !(y2) then
          some ([])
        else
          Option.bind (P_spec_l15Authorised a0 a1.2.1 a2 a3 false) fun (y3 : (List (List Int))) =>
          some y3 := by kernel_rfl
theorem S_spec_Authorised (a0 : DRoleSet) (a1 : DRoleState) (a2 : (List Int)) (a3 : Int) {r : (List (List Int))} (h : P_spec_Authorised a0 a1 a2 a3 = some r) : Ev (fun n => F_spec_Authorised n a0 a1 a2 a3) r := by
  rw [P_spec_Authorised] at h
  refine Ev.of_eq ?_ (fun n => F_spec_Authorised_eq n a0 a1 a2 a3)
  exact (Ev.ofBind h fun y1 h => (Ev.ofBif h (fun h => (Ev.ofSome h)) (fun h => (Ev.ofBif h (fun h => (Ev.ofSome h)) (fun h => (Ev.ofBind h fun y2 h => (Ev.ofBif h (fun h => (Ev.ofSome h)) (fun h => (Ev.ofBind h fun y3 h => (Ev.ofSome h))))))))))
theorem hcs_spec_Authorised : ∀ x ∈ cs_spec_Authorised, CtrOk Tryz.prog x := (conOf_cons ok_spec_GoodRoleSet (conOf_cons ok_spec_l15Small (conOf_cons ok_spec_l15Authorised conOf_nil)))
theorem ok_spec_Authorised : CtrOk Tryz.prog (c_spec_Authorised) := by
  refine ctr_of_run (c := c_spec_Authorised) (by kernel_rfl) (by kernel_rfl : Tryz.prog.funcs[6]? = some Tryz.f6) (code := Tryz.f6.body.getD .skip) (by kernel_rfl) (by kernel_rfl) (by kernel_rfl) (A := A_spec_Authorised) (I := In_spec_Authorised) (hcs_spec_Authorised) ?_
  rintro ⟨a0, a1, a2, a3, u⟩ y hy
  exact (S_spec_Authorised a0 a1 a2 a3 hy).get

/-! ## impl.ydigit (93) -/
noncomputable def T_impl_ydigit (a0 : Int) : Bool :=
  bif decide ((48 : Int) ≤ a0) then
    decide (a0 ≤ 57)
  else
    false
noncomputable def c_impl_ydigit : Ctr := ⟨93, [U8], [.bool], fun x => some (T_impl_ydigit x.1)⟩
def A_impl_ydigit : List (List Nat × Ann) := []
def In_impl_ydigit : List (List Nat × Nat) := []
noncomputable def cs_impl_ydigit : List Ctr := []
noncomputable def F_impl_ydigit (n : Nat) (a0 : Int) : Option Bool := run Tryz.prog A_impl_ydigit In_impl_ydigit (conOf cs_impl_ydigit) Tryz.f93 (Tryz.f93.body.getD .skip) (packT [.bool]) n (argsV [U8] (a0, ()))
theorem F_impl_ydigit_eq (n : Nat) (a0 : Int) : F_impl_ydigit n a0 =
    bif decide ((48 : Int) ≤ a0) then
      some (decide (a0 ≤ 57))
    else
      some false := by kernel_rfl
theorem S_impl_ydigit (n : Nat) (a0 : Int) : F_impl_ydigit n a0 = some (T_impl_ydigit a0) := (F_impl_ydigit_eq n a0).trans (cond_some rfl rfl)
theorem hcs_impl_ydigit : ∀ x ∈ cs_impl_ydigit, CtrOk Tryz.prog x := conOf_nil
theorem ok_impl_ydigit : CtrOk Tryz.prog (c_impl_ydigit) := by
  refine ctr_of_run (c := c_impl_ydigit) (by kernel_rfl) (by kernel_rfl : Tryz.prog.funcs[93]? = some Tryz.f93) (code := Tryz.f93.body.getD .skip) (by kernel_rfl) (by kernel_rfl) (by kernel_rfl) (A := A_impl_ydigit) (I := In_impl_ydigit) (hcs_impl_ydigit) ?_
  rintro ⟨a0, u⟩ y hy
  exact ⟨0, (S_impl_ydigit 0 a0).trans hy⟩

/-! ## impl.yletter (107) -/
noncomputable def T_impl_yletter (a0 : Int) : Bool :=
  bif decide ((97 : Int) ≤ a0) then
    bif decide (a0 ≤ 122) then
      true
    else
      bif decide ((65 : Int) ≤ a0) then
        decide (a0 ≤ 90)
      else
        false
  else
    bif decide ((65 : Int) ≤ a0) then
      decide (a0 ≤ 90)
    else
      false
noncomputable def c_impl_yletter : Ctr := ⟨107, [U8], [.bool], fun x => some (T_impl_yletter x.1)⟩
def A_impl_yletter : List (List Nat × Ann) := []
def In_impl_yletter : List (List Nat × Nat) := []
noncomputable def cs_impl_yletter : List Ctr := []
noncomputable def F_impl_yletter (n : Nat) (a0 : Int) : Option Bool := run Tryz.prog A_impl_yletter In_impl_yletter (conOf cs_impl_yletter) Tryz.f107 (Tryz.f107.body.getD .skip) (packT [.bool]) n (argsV [U8] (a0, ()))
theorem F_impl_yletter_eq (n : Nat) (a0 : Int) : F_impl_yletter n a0 =
    bif decide ((97 : Int) ≤ a0) then
      bif decide (a0 ≤ 122) then
        some true
      else
        bif decide ((65 : Int) ≤ a0) then
          some (decide (a0 ≤ 90))
        else
          some false
    else
      bif decide ((65 : Int) ≤ a0) then
        some (decide (a0 ≤ 90))
      else
        some false := by kernel_rfl
theorem S_impl_yletter (n : Nat) (a0 : Int) : F_impl_yletter n a0 = some (T_impl_yletter a0) := (F_impl_yletter_eq n a0).trans (cond_some (cond_some rfl (cond_some rfl rfl)) (cond_some rfl rfl))
theorem hcs_impl_yletter : ∀ x ∈ cs_impl_yletter, CtrOk Tryz.prog x := conOf_nil
theorem ok_impl_yletter : CtrOk Tryz.prog (c_impl_yletter) := by
  refine ctr_of_run (c := c_impl_yletter) (by kernel_rfl) (by kernel_rfl : Tryz.prog.funcs[107]? = some Tryz.f107) (code := Tryz.f107.body.getD .skip) (by kernel_rfl) (by kernel_rfl) (by kernel_rfl) (A := A_impl_yletter) (I := In_impl_yletter) (hcs_impl_yletter) ?_
  rintro ⟨a0, u⟩ y hy
  exact ⟨0, (S_impl_yletter 0 a0).trans hy⟩

/-! ## impl.ywordByte (94) -/
noncomputable def T_impl_ywordByte (a0 : Int) : Bool :=
  bif T_impl_yletter a0 then
    true
  else
    bif T_impl_ydigit a0 then
      true
    else
      decide (a0 = 95)
noncomputable def c_impl_ywordByte : Ctr := ⟨94, [U8], [.bool], fun x => some (T_impl_ywordByte x.1)⟩
def A_impl_ywordByte : List (List Nat × Ann) := []
def In_impl_ywordByte : List (List Nat × Nat) := []
noncomputable def cs_impl_ywordByte : List Ctr := [c_impl_yletter, c_impl_ydigit]
noncomputable def F_impl_ywordByte (n : Nat) (a0 : Int) : Option Bool := run Tryz.prog A_impl_ywordByte In_impl_ywordByte (conOf cs_impl_ywordByte) Tryz.f94 (Tryz.f94.body.getD .skip) (packT [.bool]) n (argsV [U8] (a0, ()))
theorem F_impl_ywordByte_eq (n : Nat) (a0 : Int) : F_impl_ywordByte n a0 =
    bif T_impl_yletter a0 then
      some true
    else
      bif T_impl_ydigit a0 then
        some true
      else
        some (decide (a0 = 95)) := by kernel_rfl
theorem S_impl_ywordByte (n : Nat) (a0 : Int) : F_impl_ywordByte n a0 = some (T_impl_ywordByte a0) := (F_impl_ywordByte_eq n a0).trans (cond_some rfl (cond_some rfl rfl))
theorem hcs_impl_ywordByte : ∀ x ∈ cs_impl_ywordByte, CtrOk Tryz.prog x := (conOf_cons ok_impl_yletter (conOf_cons ok_impl_ydigit conOf_nil))
theorem ok_impl_ywordByte : CtrOk Tryz.prog (c_impl_ywordByte) := by
  refine ctr_of_run (c := c_impl_ywordByte) (by kernel_rfl) (by kernel_rfl : Tryz.prog.funcs[94]? = some Tryz.f94) (code := Tryz.f94.body.getD .skip) (by kernel_rfl) (by kernel_rfl) (by kernel_rfl) (A := A_impl_ywordByte) (I := In_impl_ywordByte) (hcs_impl_ywordByte) ?_
  rintro ⟨a0, u⟩ y hy
  exact ⟨0, (S_impl_ywordByte 0 a0).trans hy⟩

/-! ## impl.GoodName (83) -/
noncomputable def P_impl_GoodName_0_4 : List Int → Option Bool
  | [] =>
      some true
  | e :: rest =>
      bif !(T_impl_ywordByte (e)) then
        some false
      else
        P_impl_GoodName_0_4 rest
noncomputable def P_impl_GoodName (a0 : (List Int)) : Option Bool :=
  bif decide (a0 = ([] : List Int)) then
    some false
  else
    bif decide ((30 : Int) < (a0.length : Int)) then
      some false
    else
      bif inB 0 a0.length then
        bif T_impl_ydigit (rd a0 0 0) then
          some false
        else
          lenOk a0 (P_impl_GoodName_0_4 a0)
      else none
noncomputable def c_impl_GoodName : Ctr := ⟨83, [.str], [.bool], fun x => P_impl_GoodName x.1⟩
def A_impl_GoodName : List (List Nat × Ann) := [([0, 4], [.keep 0 0, .keep 0 17, .keep 0 18])]
def In_impl_GoodName : List (List Nat × Nat) := []
noncomputable def cs_impl_GoodName : List Ctr := [c_impl_ydigit, c_impl_ywordByte]
noncomputable def F_impl_GoodName (n : Nat) (a0 : (List Int)) : Option Bool := run Tryz.prog A_impl_GoodName In_impl_GoodName (conOf cs_impl_GoodName) Tryz.f83 (Tryz.f83.body.getD .skip) (packT [.bool]) n (argsV [.str] (a0, ()))
noncomputable abbrev L_impl_GoodName_0_4 (n : Nat) (x1 : (List Int)) (x2 : Int) (x3 : Int) : Option Bool := lam Tryz.prog A_impl_GoodName In_impl_GoodName (conOf cs_impl_GoodName) Tryz.f83 (Tryz.f83.body.getD .skip) (packT [.bool]) n [0, 4] [.d .str x1, .d I64 x2, .d I64 x3]
theorem F_impl_GoodName_eq (n : Nat) (a0 : (List Int)) : F_impl_GoodName n a0 =
    bif decide (a0 = ([] : List Int)) then
      some false
    else
      bif decide ((30 : Int) < (a0.length : Int)) then
        some false
      else
        bif inB 0 a0.length then
          bif T_impl_ydigit (rd a0 0 0) then
            some false
          else
            L_impl_GoodName_0_4 n a0 (a0.length : Int) 0
        else none := by kernel_rfl
theorem L_impl_GoodName_0_4_eq (n : Nat) (x1 : (List Int)) (x2 : Int) (x3 : Int) : L_impl_GoodName_0_4 (n + 1) x1 x2 x3 =
    bif decide (x3 < x2) then
      bif inB x3 x1.length then
        bif !(T_impl_ywordByte (rd x1 x3 0)) then
          some false
        else
          L_impl_GoodName_0_4 n x1 x2 (IntKind.wrap .i64 (x3 + 1))
      else none
    else
      some true := by kernel_rfl
theorem S_impl_GoodName_0_4 {x1 : (List Int)} (hl : x1.length ≤ maxLen) : ∀ (rest : List Int) (k : Nat) (r : Bool), rest = x1.drop k → P_impl_GoodName_0_4 rest = some r → Ev (fun n => L_impl_GoodName_0_4 n x1 (x1.length : Int) (k : Int)) r := by
  intro rest
  induction rest with
  | nil =>
    intro k r hr h
    have hk := drop_nil hr
    rw [P_impl_GoodName_0_4] at h
    refine Ev.step ?_ (fun n => L_impl_GoodName_0_4_eq n x1 (x1.length : Int) (k : Int))
    rw [show decide ((k : Int) < (x1.length : Int)) = false from decide_eq_false (by omega)]
    exact Ev.neg rfl (Ev.ofSome h)
  | cons e rest ih =>
    intro k r hr h
    obtain ⟨hk, hx, hr2⟩ := drop_cons (d := 0) hr
    have hw := wrap_succ hl hk
    have ih2 : ∀ (r : Bool), P_impl_GoodName_0_4 rest = some r → Ev (fun n => L_impl_GoodName_0_4 n x1 (x1.length : Int) (IntKind.wrap .i64 ((k : Int) + 1))) r := by
      intro r h; rw [hw]; exact ih (k + 1) r hr2 h
    rw [P_impl_GoodName_0_4] at h
    refine Ev.step ?_ (fun n => L_impl_GoodName_0_4_eq n x1 (x1.length : Int) (k : Int))
    rw [show decide ((k : Int) < (x1.length : Int)) = true from decide_eq_true (by omega), inB_nat2 hk, hx]
    exact Ev.pos rfl (Ev.pos rfl (Ev.ofBif h (fun h => (Ev.ofSome h)) (fun h => (ih2  _ h))))
theorem S_impl_GoodName (a0 : (List Int)) {r : Bool} (h : P_impl_GoodName a0 = some r) : Ev (fun n => F_impl_GoodName n a0) r := by
  rw [P_impl_GoodName] at h
  refine Ev.of_eq ?_ (fun n => F_impl_GoodName_eq n a0)
  exact (Ev.ofBif h (fun h => (Ev.ofSome h)) (fun h => (Ev.ofBif h (fun h => (Ev.ofSome h)) (fun h => (Ev.ofBif h (fun h => (Ev.ofBif h (fun h => (Ev.ofSome h)) (fun h => (Ev.ofLen h fun hl h => S_impl_GoodName_0_4 hl _ (0 : Nat) _ rfl h)))) (fun h => (Ev.ofNone h)))))))
theorem hcs_impl_GoodName : ∀ x ∈ cs_impl_GoodName, CtrOk Tryz.prog x := (conOf_cons ok_impl_ydigit (conOf_cons ok_impl_ywordByte conOf_nil))
theorem ok_impl_GoodName : CtrOk Tryz.prog (c_impl_GoodName) := by
  refine ctr_of_run (c := c_impl_GoodName) (by kernel_rfl) (by kernel_rfl : Tryz.prog.funcs[83]? = some Tryz.f83) (code := Tryz.f83.body.getD .skip) (by kernel_rfl) (by kernel_rfl) (by kernel_rfl) (A := A_impl_GoodName) (I := In_impl_GoodName) (hcs_impl_GoodName) ?_
  rintro ⟨a0, u⟩ y hy
  exact (S_impl_GoodName a0 hy).get

/-! ## impl.yrising (80) -/
noncomputable def P_impl_yrising_0_2 (x1 : (List (List Int))) : List (List Int) → Nat → Option Bool
  | [], k =>
      some true
  | e :: rest, k =>
      bif decide ((0 : Int) < (k : Int)) then
        bif inB (IntKind.wrap .i64 ((k : Int) - 1)) x1.length then
          bif !lessI (rd x1 (IntKind.wrap .i64 ((k : Int) - 1)) (Ty.dflt .str)) (e) then
            some false
          else
            P_impl_yrising_0_2 x1 rest (k + 1)
        else none
      else
        P_impl_yrising_0_2 x1 rest (k + 1)
noncomputable def P_impl_yrising (a0 : (List (List Int))) : Option Bool :=
  lenOk a0 (P_impl_yrising_0_2 a0 a0 0)
noncomputable def c_impl_yrising : Ctr := ⟨80, [(.list .str)], [.bool], fun x => P_impl_yrising x.1⟩
def A_impl_yrising : List (List Nat × Ann) := [([0, 2], [.keep 0 0, .keep 0 5, .keep 0 6, .keep 0 7])]
def In_impl_yrising : List (List Nat × Nat) := []
noncomputable def cs_impl_yrising : List Ctr := []
noncomputable def F_impl_yrising (n : Nat) (a0 : (List (List Int))) : Option Bool := run Tryz.prog A_impl_yrising In_impl_yrising (conOf cs_impl_yrising) Tryz.f80 (Tryz.f80.body.getD .skip) (packT [.bool]) n (argsV [(.list .str)] (a0, ()))
noncomputable abbrev L_impl_yrising_0_2 (n : Nat) (x1 : (List (List Int))) (x2 : (List (List Int))) (x3 : Int) (x4 : Int) : Option Bool := lam Tryz.prog A_impl_yrising In_impl_yrising (conOf cs_impl_yrising) Tryz.f80 (Tryz.f80.body.getD .skip) (packT [.bool]) n [0, 2] [.d (.list .str) x1, .d (.list .str) x2, .d I64 x3, .d I64 x4]
theorem F_impl_yrising_eq (n : Nat) (a0 : (List (List Int))) : F_impl_yrising n a0 =
    L_impl_yrising_0_2 n a0 a0 (a0.length : Int) 0 := by kernel_rfl
theorem L_impl_yrising_0_2_eq (n : Nat) (x1 : (List (List Int))) (x2 : (List (List Int))) (x3 : Int) (x4 : Int) : L_impl_yrising_0_2 (n + 1) x1 x2 x3 x4 =
    bif decide (x4 < x3) then
      bif inB x4 x2.length then
        bif decide ((0 : Int) < x4) then
          bif inB (IntKind.wrap .i64 (x4 - 1)) x1.length then
            bif !lessI (rd x1 (IntKind.wrap .i64 (x4 - 1)) (Ty.dflt .str)) (rd x2 x4 (Ty.dflt .str)) then
              some false
            else
              L_impl_yrising_0_2 n x1 x2 x3 (IntKind.wrap .i64 (x4 + 1))
          else none
        else
          L_impl_yrising_0_2 n x1 x2 x3 (IntKind.wrap .i64 (x4 + 1))
      else none
    else
      some true := by kernel_rfl
theorem S_impl_yrising_0_2 {x1 : (List (List Int))} (hl : x1.length ≤ maxLen) : ∀ (rest : List (List Int)) (k : Nat) (r : Bool), rest = x1.drop k → P_impl_yrising_0_2 x1 rest k = some r → Ev (fun n => L_impl_yrising_0_2 n x1 x1 (x1.length : Int) (k : Int)) r := by
  intro rest
  induction rest with
  | nil =>
    intro k r hr h
    have hk := drop_nil hr
    rw [P_impl_yrising_0_2] at h
    refine Ev.step ?_ (fun n => L_impl_yrising_0_2_eq n x1 x1 (x1.length : Int) (k : Int))
    rw [show decide ((k : Int) < (x1.length : Int)) = false from decide_eq_false (by omega)]
    exact Ev.neg rfl (Ev.ofSome h)
  | cons e rest ih =>
    intro k r hr h
    obtain ⟨hk, hx, hr2⟩ := drop_cons (d := (Ty.dflt .str)) hr
    have hw := wrap_succ hl hk
    have ih2 : ∀ (r : Bool), P_impl_yrising_0_2 x1 rest (k + 1) = some r → Ev (fun n => L_impl_yrising_0_2 n x1 x1 (x1.length : Int) (IntKind.wrap .i64 ((k : Int) + 1))) r := by
      intro r h; rw [hw]; exact ih (k + 1) r hr2 h
    rw [P_impl_yrising_0_2] at h
    refine Ev.step ?_ (fun n => L_impl_yrising_0_2_eq n x1 x1 (x1.length : Int) (k : Int))
    rw [show decide ((k : Int) < (x1.length : Int)) = true from decide_eq_true (by omega), inB_nat2 hk, hx]
    exact Ev.pos rfl (Ev.pos rfl (Ev.ofBif h (fun h => (Ev.ofBif h (fun h => (Ev.ofBif h (fun h => (Ev.ofSome h)) (fun h => (ih2  _ h)))) (fun h => (Ev.ofNone h)))) (fun h => (ih2  _ h))))
theorem S_impl_yrising (a0 : (List (List Int))) {r : Bool} (h : P_impl_yrising a0 = some r) : Ev (fun n => F_impl_yrising n a0) r := by
  rw [P_impl_yrising] at h
  refine Ev.of_eq ?_ (fun n => F_impl_yrising_eq n a0)
  exact (Ev.ofLen h fun hl h => S_impl_yrising_0_2 hl _ (0 : Nat) _ rfl h)
theorem hcs_impl_yrising : ∀ x ∈ cs_impl_yrising, CtrOk Tryz.prog x := conOf_nil
theorem ok_impl_yrising : CtrOk Tryz.prog (c_impl_yrising) := by
  refine ctr_of_run (c := c_impl_yrising) (by kernel_rfl) (by kernel_rfl : Tryz.prog.funcs[80]? = some Tryz.f80) (code := Tryz.f80.body.getD .skip) (by kernel_rfl) (by kernel_rfl) (by kernel_rfl) (A := A_impl_yrising) (I := In_impl_yrising) (hcs_impl_yrising) ?_
  rintro ⟨a0, u⟩ y hy
  exact (S_impl_yrising a0 hy).get

/-! ## impl.RoleSet).yrole (78) -/
noncomputable def P_impl_RoleSet_yrole_0_2_1003 (x1 : (List Int)) : List DRole → Option (DRole × Bool)
  | [] =>
      some ((([] : List Int), [], []), false)
  | e :: rest =>
      bif decide ((e).1 = x1) then
        some ((e), true)
      else
        P_impl_RoleSet_yrole_0_2_1003 x1 rest
noncomputable def P_impl_RoleSet_yrole (a0 : DRoleSet) (a1 : (List Int)) : Option (DRole × Bool) :=
  lenOk a0.1 (P_impl_RoleSet_yrole_0_2_1003 a1 a0.1)
noncomputable def c_impl_RoleSet_yrole : Ctr := ⟨78, [TyRoleSet, .str], [TyRole, .bool], fun x => P_impl_RoleSet_yrole x.1 x.2.1⟩
def A_impl_RoleSet_yrole : List (List Nat × Ann) := [([0, 2, 1003], [.keep 0 4, .keep 1 1, .keep 1 2, .keep 1 6, .keep 1 11, .keep 1 12, .keep 1 13, .boxd 0 4 TyRole, .boxd 1 6 TyRole])]
def In_impl_RoleSet_yrole : List (List Nat × Nat) := [([1003], 90), ([4002, 1003], 91)]
noncomputable def cs_impl_RoleSet_yrole : List Ctr := []
noncomputable def F_impl_RoleSet_yrole (n : Nat) (a0 : DRoleSet) (a1 : (List Int)) : Option (DRole × Bool) := run Tryz.prog A_impl_RoleSet_yrole In_impl_RoleSet_yrole (conOf cs_impl_RoleSet_yrole) Tryz.f78 (Tryz.f78.body.getD .skip) (packT [TyRole, .bool]) n (argsV [TyRoleSet, .str] (a0, a1, ()))
noncomputable abbrev L_impl_RoleSet_yrole_0_2_1003 (n : Nat) (x1 : (List Int)) (x2 : (List DRole)) (x3 : Int) (x4 : Int) (x5 : DRole) (x6 : DRole) : Option (DRole × Bool) := lam Tryz.prog A_impl_RoleSet_yrole In_impl_RoleSet_yrole (conOf cs_impl_RoleSet_yrole) Tryz.f78 (Tryz.f78.body.getD .skip) (packT [TyRole, .bool]) n [0, 2, 1003] [.ptr 0 4 0, .fn 91 [], .d .str x1, .ptr 1 6 0, .d (.list TyRole) x2, .d I64 x3, .d I64 x4, .agg (explode TyRole x5), .agg (explode TyRole x6)]
theorem F_impl_RoleSet_yrole_eq (n : Nat) (a0 : DRoleSet) (a1 : (List Int)) : F_impl_RoleSet_yrole n a0 a1 =
    L_impl_RoleSet_yrole_0_2_1003 n a1 a0.1 (a0.1.length : Int) 0 (([] : List Int), [], []) (([] : List Int), [], []) := by kernel_rfl
theorem L_impl_RoleSet_yrole_0_2_1003_eq (n : Nat) (x1 : (List Int)) (x2 : (List DRole)) (x3 : Int) (x4 : Int) (x5 : DRole) (x6 : DRole) : L_impl_RoleSet_yrole_0_2_1003 (n + 1) x1 x2 x3 x4 x5 x6 =
    bif decide (x4 < x3) then
      bif inB x4 x2.length then
        bif decide ((rd x2 x4 (Ty.dflt TyRole)).1 = x1) then
          some ((rd x2 x4 (Ty.dflt TyRole)), true)
        else
          L_impl_RoleSet_yrole_0_2_1003 n x1 x2 x3 (IntKind.wrap .i64 (x4 + 1)) x5 x6
      else none
    else
      some ((([] : List Int), [], []), false) := by kernel_rfl
theorem S_impl_RoleSet_yrole_0_2_1003 {x1 : (List Int)} {x2 : (List DRole)} {x5 : DRole} (hl : x2.length ≤ maxLen) : ∀ (rest : List DRole) (k : Nat) (r : (DRole × Bool)), rest = x2.drop k → P_impl_RoleSet_yrole_0_2_1003 x1 rest = some r → Ev (fun n => L_impl_RoleSet_yrole_0_2_1003 n x1 x2 (x2.length : Int) (k : Int) x5 x5) r := by
  intro rest
  induction rest with
  | nil =>
    intro k r hr h
    have hk := drop_nil hr
    rw [P_impl_RoleSet_yrole_0_2_1003] at h
    refine Ev.step ?_ (fun n => L_impl_RoleSet_yrole_0_2_1003_eq n x1 x2 (x2.length : Int) (k : Int) x5 x5)
    rw [show decide ((k : Int) < (x2.length : Int)) = false from decide_eq_false (by omega)]
    exact Ev.neg rfl (Ev.ofSome h)
  | cons e rest ih =>
    intro k r hr h
    obtain ⟨hk, hx, hr2⟩ := drop_cons (d := (Ty.dflt TyRole)) hr
    have hw := wrap_succ hl hk
    have ih2 : ∀ (r : (DRole × Bool)), P_impl_RoleSet_yrole_0_2_1003 x1 rest = some r → Ev (fun n => L_impl_RoleSet_yrole_0_2_1003 n x1 x2 (x2.length : Int) (IntKind.wrap .i64 ((k : Int) + 1)) x5 x5) r := by
      intro r h; rw [hw]; exact ih (k + 1) r hr2 h
    rw [P_impl_RoleSet_yrole_0_2_1003] at h
    refine Ev.step ?_ (fun n => L_impl_RoleSet_yrole_0_2_1003_eq n x1 x2 (x2.length : Int) (k : Int) x5 x5)
    rw [show decide ((k : Int) < (x2.length : Int)) = true from decide_eq_true (by omega), inB_nat2 hk, hx]
    exact Ev.pos rfl (Ev.pos rfl (Ev.ofBif h (fun h => (Ev.ofSome h)) (fun h => (ih2  _ h))))
theorem S_impl_RoleSet_yrole (a0 : DRoleSet) (a1 : (List Int)) {r : (DRole × Bool)} (h : P_impl_RoleSet_yrole a0 a1 = some r) : Ev (fun n => F_impl_RoleSet_yrole n a0 a1) r := by
  rw [P_impl_RoleSet_yrole] at h
  refine Ev.of_eq ?_ (fun n => F_impl_RoleSet_yrole_eq n a0 a1)
  exact (Ev.ofLen h fun hl h => S_impl_RoleSet_yrole_0_2_1003 hl _ (0 : Nat) _ rfl h)
theorem hcs_impl_RoleSet_yrole : ∀ x ∈ cs_impl_RoleSet_yrole, CtrOk Tryz.prog x := conOf_nil
theorem ok_impl_RoleSet_yrole : CtrOk Tryz.prog (c_impl_RoleSet_yrole) := by
  refine ctr_of_run (c := c_impl_RoleSet_yrole) (by kernel_rfl) (by kernel_rfl : Tryz.prog.funcs[78]? = some Tryz.f78) (code := Tryz.f78.body.getD .skip) (by kernel_rfl) (by kernel_rfl) (by kernel_rfl) (A := A_impl_RoleSet_yrole) (I := In_impl_RoleSet_yrole) (hcs_impl_RoleSet_yrole) ?_
  rintro ⟨a0, a1, u⟩ y hy
  exact (S_impl_RoleSet_yrole a0 a1 hy).get

/-! ## impl.yallNames (84) -/
noncomputable def P_impl_yallNames_0_2_1002_1001 : List (List Int) → Nat → Option Bool
  | [], k =>
      some true
  | e :: rest, k =>
      Option.bind (P_impl_GoodName (e)) fun (y1 : Bool) =>
      bif !(y1) then
        some (!decide ((0 : Int) ≤ (k : Int)))
      else
        P_impl_yallNames_0_2_1002_1001 rest (k + 1)
noncomputable def P_impl_yallNames (a0 : (List (List Int))) : Option Bool :=
  lenOk a0 (P_impl_yallNames_0_2_1002_1001 a0 0)
noncomputable def c_impl_yallNames : Ctr := ⟨84, [(.list .str)], [.bool], fun x => P_impl_yallNames x.1⟩
def A_impl_yallNames : List (List Nat × Ann) := [([0, 2, 1002, 1001], [.keep 2 0, .keep 2 1, .keep 2 7, .keep 2 8])]
def In_impl_yallNames : List (List Nat × Nat) := [([1001], 81), ([1002, 1001], 92), ([4005, 1002, 1001], 95)]
noncomputable def cs_impl_yallNames : List Ctr := [c_impl_GoodName]
noncomputable def F_impl_yallNames (n : Nat) (a0 : (List (List Int))) : Option Bool := run Tryz.prog A_impl_yallNames In_impl_yallNames (conOf cs_impl_yallNames) Tryz.f84 (Tryz.f84.body.getD .skip) (packT [.bool]) n (argsV [(.list .str)] (a0, ()))
noncomputable abbrev L_impl_yallNames_0_2_1002_1001 (n : Nat) (x1 : (List (List Int))) (x2 : Int) (x3 : Int) : Option Bool := lam Tryz.prog A_impl_yallNames In_impl_yallNames (conOf cs_impl_yallNames) Tryz.f84 (Tryz.f84.body.getD .skip) (packT [.bool]) n [0, 2, 1002, 1001] [.d (.list .str) x1, .fn 95 [], .d I64 x2, .d I64 x3]
theorem F_impl_yallNames_eq (n : Nat) (a0 : (List (List Int))) : F_impl_yallNames n a0 =
    L_impl_yallNames_0_2_1002_1001 n a0 (a0.length : Int) 0 := by kernel_rfl
theorem L_impl_yallNames_0_2_1002_1001_eq (n : Nat) (x1 : (List (List Int))) (x2 : Int) (x3 : Int) : L_impl_yallNames_0_2_1002_1001 (n + 1) x1 x2 x3 =
    bif decide (x3 < x2) then
      bif inB x3 x1.length then
        Option.bind (P_impl_GoodName (rd x1 x3 (Ty.dflt .str))) fun (y1 : Bool) =>
        bif !(y1) then
          some (!decide ((0 : Int) ≤ x3))
        else
          L_impl_yallNames_0_2_1002_1001 n x1 x2 (IntKind.wrap .i64 (x3 + 1))
      else none
    else
      some true := by kernel_rfl
theorem S_impl_yallNames_0_2_1002_1001 {x1 : (List (List Int))} (hl : x1.length ≤ maxLen) : ∀ (rest : List (List Int)) (k : Nat) (r : Bool), rest = x1.drop k → P_impl_yallNames_0_2_1002_1001 rest k = some r → Ev (fun n => L_impl_yallNames_0_2_1002_1001 n x1 (x1.length : Int) (k : Int)) r := by
  intro rest
  induction rest with
  | nil =>
    intro k r hr h
    have hk := drop_nil hr
    rw [P_impl_yallNames_0_2_1002_1001] at h
    refine Ev.step ?_ (fun n => L_impl_yallNames_0_2_1002_1001_eq n x1 (x1.length : Int) (k : Int))
    rw [show decide ((k : Int) < (x1.length : Int)) = false from decide_eq_false (by omega)]
    exact Ev.neg rfl (Ev.ofSome h)
  | cons e rest ih =>
    intro k r hr h
    obtain ⟨hk, hx, hr2⟩ := drop_cons (d := (Ty.dflt .str)) hr
    have hw := wrap_succ hl hk
    have ih2 : ∀ (r : Bool), P_impl_yallNames_0_2_1002_1001 rest (k + 1) = some r → Ev (fun n => L_impl_yallNames_0_2_1002_1001 n x1 (x1.length : Int) (IntKind.wrap .i64 ((k : Int) + 1))) r := by
      intro r h; rw [hw]; exact ih (k + 1) r hr2 h
    rw [P_impl_yallNames_0_2_1002_1001] at h
    refine Ev.step ?_ (fun n => L_impl_yallNames_0_2_1002_1001_eq n x1 (x1.length : Int) (k : Int))
    rw [show decide ((k : Int) < (x1.length : Int)) = true from decide_eq_true (by omega), inB_nat2 hk, hx]
    exact Ev.pos rfl (Ev.pos rfl (Ev.ofBind h fun y1 h => (Ev.ofBif h (fun h => (Ev.ofSome h)) (fun h => (ih2  _ h)))))
theorem S_impl_yallNames (a0 : (List (List Int))) {r : Bool} (h : P_impl_yallNames a0 = some r) : Ev (fun n => F_impl_yallNames n a0) r := by
  rw [P_impl_yallNames] at h
  refine Ev.of_eq ?_ (fun n => F_impl_yallNames_eq n a0)
  exact (Ev.ofLen h fun hl h => S_impl_yallNames_0_2_1002_1001 hl _ (0 : Nat) _ rfl h)
theorem hcs_impl_yallNames : ∀ x ∈ cs_impl_yallNames, CtrOk Tryz.prog x := (conOf_cons ok_impl_GoodName conOf_nil)
theorem ok_impl_yallNames : CtrOk Tryz.prog (c_impl_yallNames) := by
  refine ctr_of_run (c := c_impl_yallNames) (by kernel_rfl) (by kernel_rfl : Tryz.prog.funcs[84]? = some Tryz.f84) (code := Tryz.f84.body.getD .skip) (by kernel_rfl) (by kernel_rfl) (by kernel_rfl) (A := A_impl_yallNames) (I := In_impl_yallNames) (hcs_impl_yallNames) ?_
  rintro ⟨a0, u⟩ y hy
  exact (S_impl_yallNames a0 hy).get

/-! ## slices.Clone[[]string,string] (89) -/
noncomputable def P_slices_Clone_string_string (a0 : (List (List Int))) : Option (List (List Int)) :=
  bif decide (0 < a0.length) then
    bif decide (((([] : List (List Int)).length : Int) + (a0.length : Int)) * 16 ≤ room) && decide ((([] : List (List Int)).length : Int) + (a0.length : Int) ≤ room) then
      some (([] : List (List Int)) ++ a0)
    else none
  else
    both
      (some ([]))
      (bif decide (((([] : List (List Int)).length : Int) + (a0.length : Int)) * 16 ≤ room) && decide ((([] : List (List Int)).length : Int) + (a0.length : Int) ≤ room) then
        some (([] : List (List Int)) ++ a0)
      else none)
noncomputable def c_slices_Clone_string_string : Ctr := ⟨89, [(.list .str)], [(.list .str)], fun x => P_slices_Clone_string_string x.1⟩
def A_slices_Clone_string_string : List (List Nat × Ann) := []
def In_slices_Clone_string_string : List (List Nat × Nat) := []
noncomputable def cs_slices_Clone_string_string : List Ctr := []
noncomputable def F_slices_Clone_string_string (n : Nat) (a0 : (List (List Int))) : Option (List (List Int)) := run Tryz.prog A_slices_Clone_string_string In_slices_Clone_string_string (conOf cs_slices_Clone_string_string) Tryz.f89 (Tryz.f89.body.getD .skip) (packT [(.list .str)]) n (argsV [(.list .str)] (a0, ()))
theorem F_slices_Clone_string_string_eq (n : Nat) (a0 : (List (List Int))) : F_slices_Clone_string_string n a0 =
    bif decide (0 < a0.length) then
      bif decide (((([] : List (List Int)).length : Int) + (a0.length : Int)) * 16 ≤ room) && decide ((([] : List (List Int)).length : Int) + (a0.length : Int) ≤ room) then
        some (([] : List (List Int)) ++ a0)
      else none
    else
      both
        (some ([]))
        (bif decide (((([] : List (List Int)).length : Int) + (a0.length : Int)) * 16 ≤ room) && decide ((([] : List (List Int)).length : Int) + (a0.length : Int) ≤ room) then
          some (([] : List (List Int)) ++ a0)
        else none) := by kernel_rfl
theorem S_slices_Clone_string_string (a0 : (List (List Int))) {r : (List (List Int))} (h : P_slices_Clone_string_string a0 = some r) : Ev (fun n => F_slices_Clone_string_string n a0) r := by
  rw [P_slices_Clone_string_string] at h
  refine Ev.of_eq ?_ (fun n => F_slices_Clone_string_string_eq n a0)
  exact (Ev.ofBif h (fun h => (Ev.ofBif h (fun h => (Ev.ofSome h)) (fun h => (Ev.ofNone h)))) (fun h => (Ev.ofBoth h (fun h => (Ev.ofSome h)) (fun h => (Ev.ofBif h (fun h => (Ev.ofSome h)) (fun h => (Ev.ofNone h)))))))
theorem hcs_slices_Clone_string_string : ∀ x ∈ cs_slices_Clone_string_string, CtrOk Tryz.prog x := conOf_nil
theorem ok_slices_Clone_string_string : CtrOk Tryz.prog (c_slices_Clone_string_string) := by
  refine ctr_of_run (c := c_slices_Clone_string_string) (by kernel_rfl) (by kernel_rfl : Tryz.prog.funcs[89]? = some Tryz.f89) (code := Tryz.f89.body.getD .skip) (by kernel_rfl) (by kernel_rfl) (by kernel_rfl) (A := A_slices_Clone_string_string) (I := In_slices_Clone_string_string) (hcs_slices_Clone_string_string) ?_
  rintro ⟨a0, u⟩ y hy
  exact (S_slices_Clone_string_string a0 hy).get

/-! ## slices.Clone[[]string,string] (89) -/
noncomputable def co_slices_Clone_string_string : Ctr := ownOf 89 [(.list .str)] .str fun x => P_slices_Clone_string_string x.1
def Ao_slices_Clone_string_string : List (List Nat × Ann) := []
def Ino_slices_Clone_string_string : List (List Nat × Nat) := []
noncomputable def cso_slices_Clone_string_string : List Ctr := []
noncomputable def Fo_slices_Clone_string_string (n : Nat) (a0 : (List (List Int))) : Option (List (List Int)) := runE Tryz.prog noG Ao_slices_Clone_string_string Ino_slices_Clone_string_string (conOf cso_slices_Clone_string_string) Tryz.f89 (Tryz.f89.body.getD .skip) (endO Tryz.prog Tryz.f89 .str) n (argsV [(.list .str)] (a0, ()))
theorem Fo_slices_Clone_string_string_eq (n : Nat) (a0 : (List (List Int))) : Fo_slices_Clone_string_string n a0 =
    bif decide (0 < a0.length) then
      bif decide (((([] : List (List Int)).length : Int) + (a0.length : Int)) * 16 ≤ room) && decide ((([] : List (List Int)).length : Int) + (a0.length : Int) ≤ room) then
        some (([] : List (List Int)) ++ a0)
      else none
    else
      both
        (some ([]))
        (bif decide (((([] : List (List Int)).length : Int) + (a0.length : Int)) * 16 ≤ room) && decide ((([] : List (List Int)).length : Int) + (a0.length : Int) ≤ room) then
          some (([] : List (List Int)) ++ a0)
        else none) := by kernel_rfl
theorem So_slices_Clone_string_string (a0 : (List (List Int))) {r : (List (List Int))} (h : P_slices_Clone_string_string a0 = some r) : Ev (fun n => Fo_slices_Clone_string_string n a0) r := by
  rw [P_slices_Clone_string_string] at h
  refine Ev.of_eq ?_ (fun n => Fo_slices_Clone_string_string_eq n a0)
  exact (Ev.ofBif h (fun h => (Ev.ofBif h (fun h => (Ev.ofSome h)) (fun h => (Ev.ofNone h)))) (fun h => (Ev.ofBoth h (fun h => (Ev.ofSome h)) (fun h => (Ev.ofBif h (fun h => (Ev.ofSome h)) (fun h => (Ev.ofNone h)))))))
theorem hcso_slices_Clone_string_string : ∀ x ∈ cso_slices_Clone_string_string, CtrOk Tryz.prog x := conOf_nil
theorem oko_slices_Clone_string_string : CtrOk Tryz.prog (co_slices_Clone_string_string) := by
  refine ctr_of_own (by kernel_rfl) (by kernel_rfl : Tryz.prog.funcs[89]? = some Tryz.f89) (code := Tryz.f89.body.getD .skip) (by kernel_rfl) (by kernel_rfl) (A := Ao_slices_Clone_string_string) (I := Ino_slices_Clone_string_string) (hcso_slices_Clone_string_string) ?_
  rintro ⟨a0, u⟩ y hy
  exact (So_slices_Clone_string_string a0 hy).get

/-! ## impl.RoleSet).yjuniors (67) -/
noncomputable def P_impl_RoleSet_yjuniors_0_3 (x2 : DRoleSet) : Nat → (List (List Int)) → (List ((List Int) × Bool)) → Option (List ((List Int) × Bool))
  | 0, _, _ => none
  | m + 1, x1, x3 =>
      bif decide ((0 : Int) < (x1.length : Int)) then
        bif inB 0 x1.length then
          Option.bind (P_impl_RoleSet_yrole x2 (rd x1 0 (Ty.dflt .str))) fun (y2 : (DRole × Bool)) =>
          bif !(y2.2) then
            bif true && decide ((1 : Int) ≤ (x1.length : Int)) then
              P_impl_RoleSet_yjuniors_0_3 x2 m (cut x1 1 (x1.length : Int)) x3
            else none
          else
            bif getM .str x3 y2.1.1 false then
              bif true && decide ((1 : Int) ≤ (x1.length : Int)) then
                P_impl_RoleSet_yjuniors_0_3 x2 m (cut x1 1 (x1.length : Int)) x3
              else none
            else
              bif decide (((x1.length : Int) + (y2.1.2.1.length : Int)) * 16 ≤ room) && decide ((x1.length : Int) + (y2.1.2.1.length : Int) ≤ room) then
                bif true && decide ((1 : Int) ≤ ((x1 ++ y2.1.2.1).length : Int)) then
                  P_impl_RoleSet_yjuniors_0_3 x2 m (cut (x1 ++ y2.1.2.1) 1 ((x1 ++ y2.1.2.1).length : Int)) (setM .str x3 y2.1.1 true)
                else none
              else none
        else none
      else
        some x3
noncomputable def P_impl_RoleSet_yjuniors (m : Nat) (a0 : DRoleSet) (a1 : (List (List Int))) : Option (List ((List Int) × Bool)) :=
  Option.bind (P_slices_Clone_string_string a1) fun (y1 : (List (List Int))) =>
  P_impl_RoleSet_yjuniors_0_3 a0 m y1 []
noncomputable def E_impl_RoleSet_yjuniors (a0 : DRoleSet) (a1 : (List (List Int))) : Option (List ((List Int) × Bool)) := evOpt fun m => P_impl_RoleSet_yjuniors m a0 a1
noncomputable def c_impl_RoleSet_yjuniors : Ctr := ⟨67, [TyRoleSet, (.list .str)], [(.map .str .bool)], fun x => E_impl_RoleSet_yjuniors x.1 x.2.1⟩
def A_impl_RoleSet_yjuniors : List (List Nat × Ann) := [([0, 3], [.keep 0 2, .keep 0 5, .own 0 6 .str, .boxd 0 2 TyRoleSet, .mapb 0 9 .str .bool])]
def In_impl_RoleSet_yjuniors : List (List Nat × Nat) := [([2001], 1000089)]
noncomputable def cs_impl_RoleSet_yjuniors : List Ctr := [co_slices_Clone_string_string, c_impl_RoleSet_yrole]
noncomputable def F_impl_RoleSet_yjuniors (n : Nat) (a0 : DRoleSet) (a1 : (List (List Int))) : Option (List ((List Int) × Bool)) := run Tryz.prog A_impl_RoleSet_yjuniors In_impl_RoleSet_yjuniors (conOf cs_impl_RoleSet_yjuniors) Tryz.f67 (Tryz.f67.body.getD .skip) (packT [(.map .str .bool)]) n (argsV [TyRoleSet, (.list .str)] (a0, a1, ()))
noncomputable abbrev L_impl_RoleSet_yjuniors_0_3 (n : Nat) (x1 : (List (List Int))) (x2 : DRoleSet) (x3 : (List ((List Int) × Bool))) : Option (List ((List Int) × Bool)) := lam Tryz.prog A_impl_RoleSet_yjuniors In_impl_RoleSet_yjuniors (conOf cs_impl_RoleSet_yjuniors) Tryz.f67 (Tryz.f67.body.getD .skip) (packT [(.map .str .bool)]) n [0, 3] [.ptr 0 2 0, .mp 0 9, .own 0 .str x1, .agg (explode TyRoleSet x2), .d (.map .str .bool) x3]
theorem F_impl_RoleSet_yjuniors_eq (n : Nat) (a0 : DRoleSet) (a1 : (List (List Int))) : F_impl_RoleSet_yjuniors n a0 a1 =
    Option.bind (P_slices_Clone_string_string a1) fun (y1 : (List (List Int))) =>
    L_impl_RoleSet_yjuniors_0_3 n y1 a0 [] := by kernel_rfl
theorem L_impl_RoleSet_yjuniors_0_3_eq (n : Nat) (x1 : (List (List Int))) (x2 : DRoleSet) (x3 : (List ((List Int) × Bool))) : L_impl_RoleSet_yjuniors_0_3 (n + 1) x1 x2 x3 =
    bif decide ((0 : Int) < (x1.length : Int)) then
      bif inB 0 x1.length then
        Option.bind (P_impl_RoleSet_yrole x2 (rd x1 0 (Ty.dflt .str))) fun (y2 : (DRole × Bool)) =>
        bif !(y2.2) then
          bif true && decide ((1 : Int) ≤ (x1.length : Int)) then
            L_impl_RoleSet_yjuniors_0_3 n (cut x1 1 (x1.length : Int)) x2 x3
          else none
        else
          bif getM .str x3 y2.1.1 false then
            bif true && decide ((1 : Int) ≤ (x1.length : Int)) then
              L_impl_RoleSet_yjuniors_0_3 n (cut x1 1 (x1.length : Int)) x2 x3
            else none
          else
            bif decide (((x1.length : Int) + (y2.1.2.1.length : Int)) * 16 ≤ room) && decide ((x1.length : Int) + (y2.1.2.1.length : Int) ≤ room) then
              bif true && decide ((1 : Int) ≤ ((x1 ++ y2.1.2.1).length : Int)) then
                L_impl_RoleSet_yjuniors_0_3 n (cut (x1 ++ y2.1.2.1) 1 ((x1 ++ y2.1.2.1).length : Int)) x2 (setM .str x3 y2.1.1 true)
              else none
            else none
      else none
    else
      some x3 := by kernel_rfl
theorem S_impl_RoleSet_yjuniors_0_3 {x2 : DRoleSet} : ∀ (m : Nat) (x1 : (List (List Int))) (x3 : (List ((List Int) × Bool))) (r : (List ((List Int) × Bool))), P_impl_RoleSet_yjuniors_0_3 x2 m x1 x3 = some r → Ev (fun n => L_impl_RoleSet_yjuniors_0_3 n x1 x2 x3) r := by
  intro m
  induction m with
  | zero => intro x1 x3 r h; rw [P_impl_RoleSet_yjuniors_0_3] at h; exact Ev.ofNone h
  | succ m ih2 =>
    intro x1 x3 r h
    rw [P_impl_RoleSet_yjuniors_0_3] at h
    refine Ev.step ?_ (fun n => L_impl_RoleSet_yjuniors_0_3_eq n x1 x2 x3)
    exact (Ev.ofBif h (fun h => (Ev.ofBif h (fun h => (Ev.ofBind h fun y2 h => (Ev.ofBif h (fun h => (Ev.ofBif h (fun h => (ih2 _ _ _ h)) (fun h => (Ev.ofNone h)))) (fun h => (Ev.ofBif h (fun h => (Ev.ofBif h (fun h => (ih2 _ _ _ h)) (fun h => (Ev.ofNone h)))) (fun h => (Ev.ofBif h (fun h => (Ev.ofBif h (fun h => (ih2 _ _ _ h)) (fun h => (Ev.ofNone h)))) (fun h => (Ev.ofNone h))))))))) (fun h => (Ev.ofNone h)))) (fun h => (Ev.ofSome h)))
theorem S_impl_RoleSet_yjuniors {m : Nat} (a0 : DRoleSet) (a1 : (List (List Int))) {r : (List ((List Int) × Bool))} (h : P_impl_RoleSet_yjuniors m a0 a1 = some r) : Ev (fun n => F_impl_RoleSet_yjuniors n a0 a1) r := by
  rw [P_impl_RoleSet_yjuniors] at h
  refine Ev.of_eq ?_ (fun n => F_impl_RoleSet_yjuniors_eq n a0 a1)
  exact (Ev.ofBind h fun y1 h => (S_impl_RoleSet_yjuniors_0_3 _ _ _ _ h))
theorem hcs_impl_RoleSet_yjuniors : ∀ x ∈ cs_impl_RoleSet_yjuniors, CtrOk Tryz.prog x := (conOf_cons oko_slices_Clone_string_string (conOf_cons ok_impl_RoleSet_yrole conOf_nil))
theorem ok_impl_RoleSet_yjuniors : CtrOk Tryz.prog (c_impl_RoleSet_yjuniors) := by
  refine ctr_of_run (c := c_impl_RoleSet_yjuniors) (by kernel_rfl) (by kernel_rfl : Tryz.prog.funcs[67]? = some Tryz.f67) (code := Tryz.f67.body.getD .skip) (by kernel_rfl) (by kernel_rfl) (by kernel_rfl) (A := A_impl_RoleSet_yjuniors) (I := In_impl_RoleSet_yjuniors) (hcs_impl_RoleSet_yjuniors) ?_
  rintro ⟨a0, a1, u⟩ y hy
  exact let ⟨_, h⟩ := (evOpt_get hy).get; (S_impl_RoleSet_yjuniors a0 a1 h).get

/-! ## impl.GoodRoleSet (62) -/
noncomputable def P_impl_GoodRoleSet_0_2_1002_1005_8024 (K0 : Option Bool) (x9 : DRoleSet) (x10 : DRole) : List (List Int) → Nat → Option Bool
  | [], k =>
      bif false then
        some false
      else
        bif decide ((20 : Int) < (x10.2.2.length : Int)) then
          some false
        else
          Option.bind (P_impl_yrising x10.2.2) fun (y6 : Bool) =>
          bif !(y6) then
            some false
          else
            Option.bind (P_impl_yallNames x10.2.2) fun (y7 : Bool) =>
            bif !(y7) then
              some false
            else
              K0
  | e :: rest, k =>
      Option.bind (P_impl_RoleSet_yrole x9 (e)) fun (y3 : (DRole × Bool)) =>
      bif !(y3.2) then
        bif false then
          some false
        else
          bif !(!decide ((0 : Int) ≤ (k : Int))) then
            some false
          else
            bif decide ((20 : Int) < (x10.2.2.length : Int)) then
              some false
            else
              Option.bind (P_impl_yrising x10.2.2) fun (y4 : Bool) =>
              bif !(y4) then
                some false
              else
                Option.bind (P_impl_yallNames x10.2.2) fun (y5 : Bool) =>
                bif !(y5) then
                  some false
                else
                  K0
      else
        P_impl_GoodRoleSet_0_2_1002_1005_8024 K0 x9 x10 rest (k + 1)
noncomputable def P_impl_GoodRoleSet_0_2_1002_1005_20003 (K3 : Option Bool) (x8 : DRoleSet) (x9 : DApart) : List (List Int) → Nat → Option Bool
  | [], k =>
      bif decide ((x9.1.length : Int) < 2) then
        some false
      else
        bif decide (x9.2.1 < 1) then
          some false
        else
          bif decide (IntKind.wrap .i64 ((x9.1.length : Int) - 1) < x9.2.1) then
            some false
          else
            K3
  | e :: rest, k =>
      Option.bind (P_impl_RoleSet_yrole x8 (e)) fun (y11 : (DRole × Bool)) =>
      bif !(y11.2) then
        bif !(!decide ((0 : Int) ≤ (k : Int))) then
          some false
        else
          bif decide ((x9.1.length : Int) < 2) then
            some false
          else
            bif decide (x9.2.1 < 1) then
              some false
            else
              bif decide (IntKind.wrap .i64 ((x9.1.length : Int) - 1) < x9.2.1) then
                some false
              else
                K3
      else
        P_impl_GoodRoleSet_0_2_1002_1005_20003 K3 x8 x9 rest (k + 1)
noncomputable def P_impl_GoodRoleSet_0_2_1002_1005_23003 (x5 : DRoleSet) : List (List Int) → Nat → Option Bool
  | [], k =>
      some true
  | e :: rest, k =>
      Option.bind (P_impl_RoleSet_yrole x5 (e)) fun (y13 : (DRole × Bool)) =>
      bif !(y13.2) then
        some (!decide ((0 : Int) ≤ (k : Int)))
      else
        P_impl_GoodRoleSet_0_2_1002_1005_23003 x5 rest (k + 1)
noncomputable def P_impl_GoodRoleSet_0_18 (x4 : DRoleSet) : List DApart → Option Bool
  | [] =>
      Option.bind (P_impl_yrising x4.2.2) fun (y12 : Bool) =>
      bif y12 then
        lenOk x4.2.2 (P_impl_GoodRoleSet_0_2_1002_1005_23003 x4 x4.2.2 0)
      else
        some false
  | e :: rest =>
      Option.bind (P_impl_yrising ((e).1)) fun (y10 : Bool) =>
      bif y10 then
        lenOk ((e).1) (P_impl_GoodRoleSet_0_2_1002_1005_20003 (P_impl_GoodRoleSet_0_18 x4 rest) x4 (e) ((e).1) 0)
      else
        some false
noncomputable def P_impl_GoodRoleSet_0_12 (x4 : DRoleSet) : List DRole → Option Bool
  | [] =>
      lenOk x4.2.1 (P_impl_GoodRoleSet_0_18 x4 x4.2.1)
  | e :: rest =>
      Option.bind (E_impl_RoleSet_yjuniors x4 (((e).2).1)) fun (y9 : (List ((List Int) × Bool))) =>
      bif getM .str y9 ((e).1) false then
        some false
      else
        P_impl_GoodRoleSet_0_12 x4 rest
noncomputable def P_impl_GoodRoleSet_0_6 (x4 : DRoleSet) : List DRole → Nat → Option Bool
  | [], k =>
      lenOk x4.1 (P_impl_GoodRoleSet_0_12 x4 x4.1)
  | e :: rest, k =>
      Option.bind (P_impl_GoodName ((e).1)) fun (y1 : Bool) =>
      bif !(y1) then
        some false
      else
        bif decide ((0 : Int) < (k : Int)) then
          bif inB (IntKind.wrap .i64 ((k : Int) - 1)) x4.1.length then
            bif !lessI ((rd x4.1 (IntKind.wrap .i64 ((k : Int) - 1)) (Ty.dflt TyRole)).1) ((e).1) then
              some false
            else
              Option.bind (P_impl_yrising (((e).2).1)) fun (y2 : Bool) =>
              bif y2 then
                lenOk (((e).2).1) (P_impl_GoodRoleSet_0_2_1002_1005_8024 (P_impl_GoodRoleSet_0_6 x4 rest (k + 1)) x4 (e) (((e).2).1) 0)
              else
                some false
          else none
        else
          Option.bind (P_impl_yrising (((e).2).1)) fun (y8 : Bool) =>
          bif y8 then
            lenOk (((e).2).1) (P_impl_GoodRoleSet_0_2_1002_1005_8024 (P_impl_GoodRoleSet_0_6 x4 rest (k + 1)) x4 (e) (((e).2).1) 0)
          else
            some false
noncomputable def P_impl_GoodRoleSet (a0 : DRoleSet) : Option Bool :=
  bif decide ((30 : Int) < (a0.1.length : Int)) then
    some false
  else
    bif decide ((10 : Int) < (a0.2.1.length : Int)) then
      some false
    else
      lenOk a0.1 (P_impl_GoodRoleSet_0_6 a0 a0.1 0)
noncomputable def c_impl_GoodRoleSet : Ctr := ⟨62, [TyRoleSet], [.bool], fun x => P_impl_GoodRoleSet x.1⟩
def A_impl_GoodRoleSet : List (List Nat × Ann) := [([0, 6], [.keep 0 1, .keep 0 4, .keep 0 24, .keep 0 25, .keep 0 26, .boxd 0 1 TyRoleSet, .box 0 3 1]), ([0, 2, 1002, 1005, 8024], [.keep 0 1, .keep 0 4, .keep 0 6, .keep 0 24, .keep 0 25, .keep 0 26, .keep 0 51, .keep 1 6, .keep 3 0, .keep 3 1, .keep 3 7, .keep 3 8, .boxd 0 1 TyRoleSet, .box 0 3 1, .boxd 0 6 TyRole]), ([0, 12], [.keep 0 1, .keep 0 4, .keep 0 78, .keep 0 79, .keep 0 80, .boxd 0 1 TyRoleSet, .box 0 3 1]), ([0, 18], [.keep 0 1, .keep 0 4, .keep 0 93, .keep 0 94, .keep 0 95, .boxd 0 1 TyRoleSet, .box 0 3 1]), ([0, 2, 1002, 1005, 20003], [.keep 0 1, .keep 0 4, .keep 0 10, .keep 0 93, .keep 0 94, .keep 0 95, .keep 1 6, .keep 3 0, .keep 3 1, .keep 3 7, .keep 3 8, .boxd 0 1 TyRoleSet, .box 0 3 1, .boxd 0 10 TyApart]), ([0, 2, 1002, 1005, 23003], [.keep 1 6, .keep 3 0, .keep 3 1, .keep 3 7, .keep 3 8, .box 0 3 1, .boxd 0 1 TyRoleSet])]
def In_impl_GoodRoleSet : List (List Nat × Nat) := [([8024], 79), ([1005, 8024], 81), ([1002, 1005, 8024], 92), ([4005, 1002, 1005, 8024], 82), ([1002, 4005, 1002, 1005, 8024], 77), ([20003], 79), ([1005, 20003], 81), ([1002, 1005, 20003], 92), ([4005, 1002, 1005, 20003], 82), ([1002, 4005, 1002, 1005, 20003], 77), ([23003], 79), ([1005, 23003], 81), ([1002, 1005, 23003], 92), ([4005, 1002, 1005, 23003], 82), ([1002, 4005, 1002, 1005, 23003], 77)]
noncomputable def cs_impl_GoodRoleSet : List Ctr := [c_impl_GoodName, c_impl_yrising, c_impl_RoleSet_yrole, c_impl_yallNames, c_impl_RoleSet_yjuniors]
noncomputable def F_impl_GoodRoleSet (n : Nat) (a0 : DRoleSet) : Option Bool := run Tryz.prog A_impl_GoodRoleSet In_impl_GoodRoleSet (conOf cs_impl_GoodRoleSet) Tryz.f62 (Tryz.f62.body.getD .skip) (packT [.bool]) n (argsV [TyRoleSet] (a0, ()))
noncomputable abbrev L_impl_GoodRoleSet_0_6 (n : Nat) (x1 : (List DRole)) (x2 : Int) (x3 : Int) (x4 : DRoleSet) : Option Bool := lam Tryz.prog A_impl_GoodRoleSet In_impl_GoodRoleSet (conOf cs_impl_GoodRoleSet) Tryz.f62 (Tryz.f62.body.getD .skip) (packT [.bool]) n [0, 6] [.ptr 0 1 0, .fn 79 [.ptr 0 3 0], .d (.list TyRole) x1, .d I64 x2, .d I64 x3, .agg (explode TyRoleSet x4), .agg [.fn 77 [.ptr 0 1 0]]]
noncomputable abbrev L_impl_GoodRoleSet_0_2_1002_1005_8024 (n : Nat) (x1 : (List DRole)) (x2 : Int) (x3 : Int) (x4 : Bool) (x5 : Bool) (x6 : (List (List Int))) (x7 : Int) (x8 : Int) (x9 : DRoleSet) (x10 : DRole) : Option Bool := lam Tryz.prog A_impl_GoodRoleSet In_impl_GoodRoleSet (conOf cs_impl_GoodRoleSet) Tryz.f62 (Tryz.f62.body.getD .skip) (packT [.bool]) n [0, 2, 1002, 1005, 8024] [.ptr 0 1 0, .fn 79 [.ptr 0 3 0], .ptr 0 6 0, .d (.list TyRole) x1, .d I64 x2, .d I64 x3, .d .bool x4, .d .bool x5, .d (.list .str) x6, .fn 82 [.ptr 0 3 0], .d I64 x7, .d I64 x8, .agg (explode TyRoleSet x9), .agg [.fn 77 [.ptr 0 1 0]], .agg (explode TyRole x10)]
noncomputable abbrev L_impl_GoodRoleSet_0_12 (n : Nat) (x1 : (List DRole)) (x2 : Int) (x3 : Int) (x4 : DRoleSet) : Option Bool := lam Tryz.prog A_impl_GoodRoleSet In_impl_GoodRoleSet (conOf cs_impl_GoodRoleSet) Tryz.f62 (Tryz.f62.body.getD .skip) (packT [.bool]) n [0, 12] [.ptr 0 1 0, .fn 79 [.ptr 0 3 0], .d (.list TyRole) x1, .d I64 x2, .d I64 x3, .agg (explode TyRoleSet x4), .agg [.fn 77 [.ptr 0 1 0]]]
noncomputable abbrev L_impl_GoodRoleSet_0_18 (n : Nat) (x1 : (List DApart)) (x2 : Int) (x3 : Int) (x4 : DRoleSet) : Option Bool := lam Tryz.prog A_impl_GoodRoleSet In_impl_GoodRoleSet (conOf cs_impl_GoodRoleSet) Tryz.f62 (Tryz.f62.body.getD .skip) (packT [.bool]) n [0, 18] [.ptr 0 1 0, .fn 79 [.ptr 0 3 0], .d (.list TyApart) x1, .d I64 x2, .d I64 x3, .agg (explode TyRoleSet x4), .agg [.fn 77 [.ptr 0 1 0]]]
noncomputable abbrev L_impl_GoodRoleSet_0_2_1002_1005_20003 (n : Nat) (x1 : (List DApart)) (x2 : Int) (x3 : Int) (x4 : Bool) (x5 : (List (List Int))) (x6 : Int) (x7 : Int) (x8 : DRoleSet) (x9 : DApart) : Option Bool := lam Tryz.prog A_impl_GoodRoleSet In_impl_GoodRoleSet (conOf cs_impl_GoodRoleSet) Tryz.f62 (Tryz.f62.body.getD .skip) (packT [.bool]) n [0, 2, 1002, 1005, 20003] [.ptr 0 1 0, .fn 79 [.ptr 0 3 0], .ptr 0 10 0, .d (.list TyApart) x1, .d I64 x2, .d I64 x3, .d .bool x4, .d (.list .str) x5, .fn 82 [.ptr 0 3 0], .d I64 x6, .d I64 x7, .agg (explode TyRoleSet x8), .agg [.fn 77 [.ptr 0 1 0]], .agg (explode TyApart x9)]
noncomputable abbrev L_impl_GoodRoleSet_0_2_1002_1005_23003 (n : Nat) (x1 : Bool) (x2 : (List (List Int))) (x3 : Int) (x4 : Int) (x5 : DRoleSet) : Option Bool := lam Tryz.prog A_impl_GoodRoleSet In_impl_GoodRoleSet (conOf cs_impl_GoodRoleSet) Tryz.f62 (Tryz.f62.body.getD .skip) (packT [.bool]) n [0, 2, 1002, 1005, 23003] [.d .bool x1, .d (.list .str) x2, .fn 82 [.ptr 0 3 0], .d I64 x3, .d I64 x4, .agg [.fn 77 [.ptr 0 1 0]], .agg (explode TyRoleSet x5)]
theorem F_impl_GoodRoleSet_eq (n : Nat) (a0 : DRoleSet) : F_impl_GoodRoleSet n a0 =
    bif decide ((30 : Int) < (a0.1.length : Int)) then
      some false
    else
      bif decide ((10 : Int) < (a0.2.1.length : Int)) then
        some false
      else
        L_impl_GoodRoleSet_0_6 n a0.1 (a0.1.length : Int) 0 a0 := by kernel_rfl
theorem L_impl_GoodRoleSet_0_6_eq (n : Nat) (x1 : (List DRole)) (x2 : Int) (x3 : Int) (x4 : DRoleSet) : L_impl_GoodRoleSet_0_6 (n + 1) x1 x2 x3 x4 =
    bif decide (x3 < x2) then
      bif inB x3 x1.length then
        Option.bind (P_impl_GoodName ((rd x1 x3 (Ty.dflt TyRole)).1)) fun (y1 : Bool) =>
        bif !(y1) then
          some false
        else
          bif decide ((0 : Int) < x3) then
            bif inB (IntKind.wrap .i64 (x3 - 1)) x4.1.length then
              bif !lessI ((rd x4.1 (IntKind.wrap .i64 (x3 - 1)) (Ty.dflt TyRole)).1) ((rd x1 x3 (Ty.dflt TyRole)).1) then
                some false
              else
                Option.bind (P_impl_yrising (((rd x1 x3 (Ty.dflt TyRole)).2).1)) fun (y2 : Bool) =>
                bif y2 then
                  L_impl_GoodRoleSet_0_2_1002_1005_8024 n x1 x2 x3 false true (((rd x1 x3 (Ty.dflt TyRole)).2).1) ((((rd x1 x3 (Ty.dflt TyRole)).2).1).length : Int) 0 x4 (rd x1 x3 (Ty.dflt TyRole))
                else
                  some false
            else none
          else
            Option.bind (P_impl_yrising (((rd x1 x3 (Ty.dflt TyRole)).2).1)) fun (y8 : Bool) =>
            bif y8 then
              L_impl_GoodRoleSet_0_2_1002_1005_8024 n x1 x2 x3 false true (((rd x1 x3 (Ty.dflt TyRole)).2).1) ((((rd x1 x3 (Ty.dflt TyRole)).2).1).length : Int) 0 x4 (rd x1 x3 (Ty.dflt TyRole))
            else
              some false
      else none
    else
      L_impl_GoodRoleSet_0_12 n x4.1 (x4.1.length : Int) 0 x4 := by kernel_rfl
theorem L_impl_GoodRoleSet_0_2_1002_1005_8024_eq (n : Nat) (x1 : (List DRole)) (x2 : Int) (x3 : Int) (x4 : Bool) (x5 : Bool) (x6 : (List (List Int))) (x7 : Int) (x8 : Int) (x9 : DRoleSet) (x10 : DRole) : L_impl_GoodRoleSet_0_2_1002_1005_8024 (n + 1) x1 x2 x3 x4 x5 x6 x7 x8 x9 x10 =
    bif decide (x8 < x7) then
      bif inB x8 x6.length then
        Option.bind (P_impl_RoleSet_yrole x9 (rd x6 x8 (Ty.dflt .str))) fun (y3 : (DRole × Bool)) =>
        bif !(y3.2) then
          bif x5 then
            bif x4 then
              some false
            else
              bif !(!decide ((0 : Int) ≤ x8)) then
                some false
              else
                bif decide ((20 : Int) < (x10.2.2.length : Int)) then
                  some false
                else
                  Option.bind (P_impl_yrising x10.2.2) fun (y4 : Bool) =>
                  bif !(y4) then
                    some false
                  else
                    Option.bind (P_impl_yallNames x10.2.2) fun (y5 : Bool) =>
                    bif !(y5) then
                      some false
                    else
                      L_impl_GoodRoleSet_0_6 n x1 x2 (IntKind.wrap .i64 (x3 + 1)) x9
          else
            bif x4 then
              some false
            else
              some false
        else
          L_impl_GoodRoleSet_0_2_1002_1005_8024 n x1 x2 x3 x4 x5 x6 x7 (IntKind.wrap .i64 (x8 + 1)) x9 x10
      else none
    else
      bif x5 then
        bif x4 then
          some false
        else
          bif decide ((20 : Int) < (x10.2.2.length : Int)) then
            some false
          else
            Option.bind (P_impl_yrising x10.2.2) fun (y6 : Bool) =>
            bif !(y6) then
              some false
            else
              Option.bind (P_impl_yallNames x10.2.2) fun (y7 : Bool) =>
              bif !(y7) then
                some false
              else
                L_impl_GoodRoleSet_0_6 n x1 x2 (IntKind.wrap .i64 (x3 + 1)) x9
      else
        bif x4 then
          some false
        else
          some false := by kernel_rfl
theorem L_impl_GoodRoleSet_0_12_eq (n : Nat) (x1 : (List DRole)) (x2 : Int) (x3 : Int) (x4 : DRoleSet) : L_impl_GoodRoleSet_0_12 (n + 1) x1 x2 x3 x4 =
    bif decide (x3 < x2) then
      bif inB x3 x1.length then
        Option.bind (E_impl_RoleSet_yjuniors x4 (((rd x1 x3 (Ty.dflt TyRole)).2).1)) fun (y9 : (List ((List Int) × Bool))) =>
        bif getM .str y9 ((rd x1 x3 (Ty.dflt TyRole)).1) false then
          some false
        else
          L_impl_GoodRoleSet_0_12 n x1 x2 (IntKind.wrap .i64 (x3 + 1)) x4
      else none
    else
      L_impl_GoodRoleSet_0_18 n x4.2.1 (x4.2.1.length : Int) 0 x4 := by kernel_rfl
theorem L_impl_GoodRoleSet_0_18_eq (n : Nat) (x1 : (List DApart)) (x2 : Int) (x3 : Int) (x4 : DRoleSet) : L_impl_GoodRoleSet_0_18 (n + 1) x1 x2 x3 x4 =
    bif decide (x3 < x2) then
      bif inB x3 x1.length then
        Option.bind (P_impl_yrising ((rd x1 x3 (Ty.dflt TyApart)).1)) fun (y10 : Bool) =>
        bif y10 then
          L_impl_GoodRoleSet_0_2_1002_1005_20003 n x1 x2 x3 true ((rd x1 x3 (Ty.dflt TyApart)).1) (((rd x1 x3 (Ty.dflt TyApart)).1).length : Int) 0 x4 (rd x1 x3 (Ty.dflt TyApart))
        else
          some false
      else none
    else
      Option.bind (P_impl_yrising x4.2.2) fun (y12 : Bool) =>
      bif y12 then
        L_impl_GoodRoleSet_0_2_1002_1005_23003 n true x4.2.2 (x4.2.2.length : Int) 0 x4
      else
        some false := by kernel_rfl
theorem L_impl_GoodRoleSet_0_2_1002_1005_20003_eq (n : Nat) (x1 : (List DApart)) (x2 : Int) (x3 : Int) (x4 : Bool) (x5 : (List (List Int))) (x6 : Int) (x7 : Int) (x8 : DRoleSet) (x9 : DApart) : L_impl_GoodRoleSet_0_2_1002_1005_20003 (n + 1) x1 x2 x3 x4 x5 x6 x7 x8 x9 =
    bif decide (x7 < x6) then
      bif inB x7 x5.length then
        Option.bind (P_impl_RoleSet_yrole x8 (rd x5 x7 (Ty.dflt .str))) fun (y11 : (DRole × Bool)) =>
        bif !(y11.2) then
          bif x4 then
            bif !(!decide ((0 : Int) ≤ x7)) then
              some false
            else
              bif decide ((x9.1.length : Int) < 2) then
                some false
              else
                bif decide (x9.2.1 < 1) then
                  some false
                else
                  bif decide (IntKind.wrap .i64 ((x9.1.length : Int) - 1) < x9.2.1) then
                    some false
                  else
                    L_impl_GoodRoleSet_0_18 n x1 x2 (IntKind.wrap .i64 (x3 + 1)) x8
          else
            some false
        else
          L_impl_GoodRoleSet_0_2_1002_1005_20003 n x1 x2 x3 x4 x5 x6 (IntKind.wrap .i64 (x7 + 1)) x8 x9
      else none
    else
      bif x4 then
        bif decide ((x9.1.length : Int) < 2) then
          some false
        else
          bif decide (x9.2.1 < 1) then
            some false
          else
            bif decide (IntKind.wrap .i64 ((x9.1.length : Int) - 1) < x9.2.1) then
              some false
            else
              L_impl_GoodRoleSet_0_18 n x1 x2 (IntKind.wrap .i64 (x3 + 1)) x8
      else
        some false := by kernel_rfl
theorem L_impl_GoodRoleSet_0_2_1002_1005_23003_eq (n : Nat) (x1 : Bool) (x2 : (List (List Int))) (x3 : Int) (x4 : Int) (x5 : DRoleSet) : L_impl_GoodRoleSet_0_2_1002_1005_23003 (n + 1) x1 x2 x3 x4 x5 =
    bif decide (x4 < x3) then
      bif inB x4 x2.length then
        Option.bind (P_impl_RoleSet_yrole x5 (rd x2 x4 (Ty.dflt .str))) fun (y13 : (DRole × Bool)) =>
        bif !(y13.2) then
          bif x1 then
            some (!decide ((0 : Int) ≤ x4))
          else
            some false
        else
          L_impl_GoodRoleSet_0_2_1002_1005_23003 n x1 x2 x3 (IntKind.wrap .i64 (x4 + 1)) x5
      else none
    else
      bif x1 then
        some true
      else
        some false := by kernel_rfl
theorem S_impl_GoodRoleSet_0_2_1002_1005_8024 {K0 : Option Bool} {x1 : (List DRole)} {x2 : Int} {x3 : Int} {x6 : (List (List Int))} {x9 : DRoleSet} {x10 : DRole} (hl : x6.length ≤ maxLen) (hK0 : ∀  (r : Bool), K0 = some r → Ev (fun n => L_impl_GoodRoleSet_0_6 n x1 x2 (IntKind.wrap .i64 (x3 + 1)) x9) r) : ∀ (rest : List (List Int)) (k : Nat) (r : Bool), rest = x6.drop k → P_impl_GoodRoleSet_0_2_1002_1005_8024 K0 x9 x10 rest k = some r → Ev (fun n => L_impl_GoodRoleSet_0_2_1002_1005_8024 n x1 x2 x3 false true x6 (x6.length : Int) (k : Int) x9 x10) r := by
  intro rest
  induction rest with
  | nil =>
    intro k r hr h
    have hk := drop_nil hr
    rw [P_impl_GoodRoleSet_0_2_1002_1005_8024] at h
    refine Ev.step ?_ (fun n => L_impl_GoodRoleSet_0_2_1002_1005_8024_eq n x1 x2 x3 false true x6 (x6.length : Int) (k : Int) x9 x10)
    rw [show decide ((k : Int) < (x6.length : Int)) = false from decide_eq_false (by omega)]
    exact Ev.neg rfl (Ev.pos rfl (Ev.ofBif h (fun h => (Ev.ofSome h)) (fun h => (Ev.ofBif h (fun h => (Ev.ofSome h)) (fun h => (Ev.ofBind h fun y6 h => (Ev.ofBif h (fun h => (Ev.ofSome h)) (fun h => (Ev.ofBind h fun y7 h => (Ev.ofBif h (fun h => (Ev.ofSome h)) (fun h => (hK0  _ h))))))))))))
  | cons e rest ih =>
    intro k r hr h
    obtain ⟨hk, hx, hr2⟩ := drop_cons (d := (Ty.dflt .str)) hr
    have hw := wrap_succ hl hk
    have ih2 : ∀ (r : Bool), P_impl_GoodRoleSet_0_2_1002_1005_8024 K0 x9 x10 rest (k + 1) = some r → Ev (fun n => L_impl_GoodRoleSet_0_2_1002_1005_8024 n x1 x2 x3 false true x6 (x6.length : Int) (IntKind.wrap .i64 ((k : Int) + 1)) x9 x10) r := by
      intro r h; rw [hw]; exact ih (k + 1) r hr2 h
    rw [P_impl_GoodRoleSet_0_2_1002_1005_8024] at h
    refine Ev.step ?_ (fun n => L_impl_GoodRoleSet_0_2_1002_1005_8024_eq n x1 x2 x3 false true x6 (x6.length : Int) (k : Int) x9 x10)
    rw [show decide ((k : Int) < (x6.length : Int)) = true from decide_eq_true (by omega), inB_nat2 hk, hx]
    exact Ev.pos rfl (Ev.pos rfl (Ev.ofBind h fun y3 h => (Ev.ofBif h (fun h => (Ev.pos rfl (Ev.ofBif h (fun h => (Ev.ofSome h)) (fun h => (Ev.ofBif h (fun h => (Ev.ofSome h)) (fun h => (Ev.ofBif h (fun h => (Ev.ofSome h)) (fun h => (Ev.ofBind h fun y4 h => (Ev.ofBif h (fun h => (Ev.ofSome h)) (fun h => (Ev.ofBind h fun y5 h => (Ev.ofBif h (fun h => (Ev.ofSome h)) (fun h => (hK0  _ h))))))))))))))) (fun h => (ih2  _ h)))))
theorem S_impl_GoodRoleSet_0_2_1002_1005_20003 {K3 : Option Bool} {x1 : (List DApart)} {x2 : Int} {x3 : Int} {x5 : (List (List Int))} {x8 : DRoleSet} {x9 : DApart} (hl : x5.length ≤ maxLen) (hK3 : ∀  (r : Bool), K3 = some r → Ev (fun n => L_impl_GoodRoleSet_0_18 n x1 x2 (IntKind.wrap .i64 (x3 + 1)) x8) r) : ∀ (rest : List (List Int)) (k : Nat) (r : Bool), rest = x5.drop k → P_impl_GoodRoleSet_0_2_1002_1005_20003 K3 x8 x9 rest k = some r → Ev (fun n => L_impl_GoodRoleSet_0_2_1002_1005_20003 n x1 x2 x3 true x5 (x5.length : Int) (k : Int) x8 x9) r := by
  intro rest
  induction rest with
  | nil =>
    intro k r hr h
    have hk := drop_nil hr
    rw [P_impl_GoodRoleSet_0_2_1002_1005_20003] at h
    refine Ev.step ?_ (fun n => L_impl_GoodRoleSet_0_2_1002_1005_20003_eq n x1 x2 x3 true x5 (x5.length : Int) (k : Int) x8 x9)
    rw [show decide ((k : Int) < (x5.length : Int)) = false from decide_eq_false (by omega)]
    exact Ev.neg rfl (Ev.pos rfl (Ev.ofBif h (fun h => (Ev.ofSome h)) (fun h => (Ev.ofBif h (fun h => (Ev.ofSome h)) (fun h => (Ev.ofBif h (fun h => (Ev.ofSome h)) (fun h => (hK3  _ h))))))))
  | cons e rest ih =>
    intro k r hr h
    obtain ⟨hk, hx, hr2⟩ := drop_cons (d := (Ty.dflt .str)) hr
    have hw := wrap_succ hl hk
    have ih2 : ∀ (r : Bool), P_impl_GoodRoleSet_0_2_1002_1005_20003 K3 x8 x9 rest (k + 1) = some r → Ev (fun n => L_impl_GoodRoleSet_0_2_1002_1005_20003 n x1 x2 x3 true x5 (x5.length : Int) (IntKind.wrap .i64 ((k : Int) + 1)) x8 x9) r := by
      intro r h; rw [hw]; exact ih (k + 1) r hr2 h
    rw [P_impl_GoodRoleSet_0_2_1002_1005_20003] at h
    refine Ev.step ?_ (fun n => L_impl_GoodRoleSet_0_2_1002_1005_20003_eq n x1 x2 x3 true x5 (x5.length : Int) (k : Int) x8 x9)
    rw [show decide ((k : Int) < (x5.length : Int)) = true from decide_eq_true (by omega), inB_nat2 hk, hx]
    exact Ev.pos rfl (Ev.pos rfl (Ev.ofBind h fun y11 h => (Ev.ofBif h (fun h => (Ev.pos rfl (Ev.ofBif h (fun h => (Ev.ofSome h)) (fun h => (Ev.ofBif h (fun h => (Ev.ofSome h)) (fun h => (Ev.ofBif h (fun h => (Ev.ofSome h)) (fun h => (Ev.ofBif h (fun h => (Ev.ofSome h)) (fun h => (hK3  _ h))))))))))) (fun h => (ih2  _ h)))))
theorem S_impl_GoodRoleSet_0_2_1002_1005_23003 {x2 : (List (List Int))} {x5 : DRoleSet} (hl : x2.length ≤ maxLen) : ∀ (rest : List (List Int)) (k : Nat) (r : Bool), rest = x2.drop k → P_impl_GoodRoleSet_0_2_1002_1005_23003 x5 rest k = some r → Ev (fun n => L_impl_GoodRoleSet_0_2_1002_1005_23003 n true x2 (x2.length : Int) (k : Int) x5) r := by
  intro rest
  induction rest with
  | nil =>
    intro k r hr h
    have hk := drop_nil hr
    rw [P_impl_GoodRoleSet_0_2_1002_1005_23003] at h
    refine Ev.step ?_ (fun n => L_impl_GoodRoleSet_0_2_1002_1005_23003_eq n true x2 (x2.length : Int) (k : Int) x5)
    rw [show decide ((k : Int) < (x2.length : Int)) = false from decide_eq_false (by omega)]
    exact Ev.neg rfl (Ev.pos rfl (Ev.ofSome h))
  | cons e rest ih =>
    intro k r hr h
    obtain ⟨hk, hx, hr2⟩ := drop_cons (d := (Ty.dflt .str)) hr
    have hw := wrap_succ hl hk
    have ih2 : ∀ (r : Bool), P_impl_GoodRoleSet_0_2_1002_1005_23003 x5 rest (k + 1) = some r → Ev (fun n => L_impl_GoodRoleSet_0_2_1002_1005_23003 n true x2 (x2.length : Int) (IntKind.wrap .i64 ((k : Int) + 1)) x5) r := by
      intro r h; rw [hw]; exact ih (k + 1) r hr2 h
    rw [P_impl_GoodRoleSet_0_2_1002_1005_23003] at h
    refine Ev.step ?_ (fun n => L_impl_GoodRoleSet_0_2_1002_1005_23003_eq n true x2 (x2.length : Int) (k : Int) x5)
    rw [show decide ((k : Int) < (x2.length : Int)) = true from decide_eq_true (by omega), inB_nat2 hk, hx]
    exact Ev.pos rfl (Ev.pos rfl (Ev.ofBind h fun y13 h => (Ev.ofBif h (fun h => (Ev.pos rfl (Ev.ofSome h))) (fun h => (ih2  _ h)))))
theorem S_impl_GoodRoleSet_0_18 {x1 : (List DApart)} {x4 : DRoleSet} (hl : x1.length ≤ maxLen) : ∀ (rest : List DApart) (k : Nat) (r : Bool), rest = x1.drop k → P_impl_GoodRoleSet_0_18 x4 rest = some r → Ev (fun n => L_impl_GoodRoleSet_0_18 n x1 (x1.length : Int) (k : Int) x4) r := by
  intro rest
  induction rest with
  | nil =>
    intro k r hr h
    have hk := drop_nil hr
    rw [P_impl_GoodRoleSet_0_18] at h
    refine Ev.step ?_ (fun n => L_impl_GoodRoleSet_0_18_eq n x1 (x1.length : Int) (k : Int) x4)
    rw [show decide ((k : Int) < (x1.length : Int)) = false from decide_eq_false (by omega)]
    exact Ev.neg rfl (Ev.ofBind h fun y12 h => (Ev.ofBif h (fun h => (Ev.ofLen h fun hl h => S_impl_GoodRoleSet_0_2_1002_1005_23003 hl _ (0 : Nat) _ rfl h)) (fun h => (Ev.ofSome h))))
  | cons e rest ih =>
    intro k r hr h
    obtain ⟨hk, hx, hr2⟩ := drop_cons (d := (Ty.dflt TyApart)) hr
    have hw := wrap_succ hl hk
    have ih2 : ∀ (r : Bool), P_impl_GoodRoleSet_0_18 x4 rest = some r → Ev (fun n => L_impl_GoodRoleSet_0_18 n x1 (x1.length : Int) (IntKind.wrap .i64 ((k : Int) + 1)) x4) r := by
      intro r h; rw [hw]; exact ih (k + 1) r hr2 h
    rw [P_impl_GoodRoleSet_0_18] at h
    refine Ev.step ?_ (fun n => L_impl_GoodRoleSet_0_18_eq n x1 (x1.length : Int) (k : Int) x4)
    rw [show decide ((k : Int) < (x1.length : Int)) = true from decide_eq_true (by omega), inB_nat2 hk, hx]
    exact Ev.pos rfl (Ev.pos rfl (Ev.ofBind h fun y10 h => (Ev.ofBif h (fun h => (Ev.ofLen h fun hl h => S_impl_GoodRoleSet_0_2_1002_1005_20003 hl ih2 _ (0 : Nat) _ rfl h)) (fun h => (Ev.ofSome h)))))
theorem S_impl_GoodRoleSet_0_12 {x1 : (List DRole)} {x4 : DRoleSet} (hl : x1.length ≤ maxLen) : ∀ (rest : List DRole) (k : Nat) (r : Bool), rest = x1.drop k → P_impl_GoodRoleSet_0_12 x4 rest = some r → Ev (fun n => L_impl_GoodRoleSet_0_12 n x1 (x1.length : Int) (k : Int) x4) r := by
  intro rest
  induction rest with
  | nil =>
    intro k r hr h
    have hk := drop_nil hr
    rw [P_impl_GoodRoleSet_0_12] at h
    refine Ev.step ?_ (fun n => L_impl_GoodRoleSet_0_12_eq n x1 (x1.length : Int) (k : Int) x4)
    rw [show decide ((k : Int) < (x1.length : Int)) = false from decide_eq_false (by omega)]
    exact Ev.neg rfl (Ev.ofLen h fun hl h => S_impl_GoodRoleSet_0_18 hl _ (0 : Nat) _ rfl h)
  | cons e rest ih =>
    intro k r hr h
    obtain ⟨hk, hx, hr2⟩ := drop_cons (d := (Ty.dflt TyRole)) hr
    have hw := wrap_succ hl hk
    have ih2 : ∀ (r : Bool), P_impl_GoodRoleSet_0_12 x4 rest = some r → Ev (fun n => L_impl_GoodRoleSet_0_12 n x1 (x1.length : Int) (IntKind.wrap .i64 ((k : Int) + 1)) x4) r := by
      intro r h; rw [hw]; exact ih (k + 1) r hr2 h
    rw [P_impl_GoodRoleSet_0_12] at h
    refine Ev.step ?_ (fun n => L_impl_GoodRoleSet_0_12_eq n x1 (x1.length : Int) (k : Int) x4)
    rw [show decide ((k : Int) < (x1.length : Int)) = true from decide_eq_true (by omega), inB_nat2 hk, hx]
    exact Ev.pos rfl (Ev.pos rfl (Ev.ofBind h fun y9 h => (Ev.ofBif h (fun h => (Ev.ofSome h)) (fun h => (ih2  _ h)))))
theorem S_impl_GoodRoleSet_0_6 {x1 : (List DRole)} {x4 : DRoleSet} (hl : x1.length ≤ maxLen) : ∀ (rest : List DRole) (k : Nat) (r : Bool), rest = x1.drop k → P_impl_GoodRoleSet_0_6 x4 rest k = some r → Ev (fun n => L_impl_GoodRoleSet_0_6 n x1 (x1.length : Int) (k : Int) x4) r := by
  intro rest
  induction rest with
  | nil =>
    intro k r hr h
    have hk := drop_nil hr
    rw [P_impl_GoodRoleSet_0_6] at h
    refine Ev.step ?_ (fun n => L_impl_GoodRoleSet_0_6_eq n x1 (x1.length : Int) (k : Int) x4)
    rw [show decide ((k : Int) < (x1.length : Int)) = false from decide_eq_false (by omega)]
    exact Ev.neg rfl (Ev.ofLen h fun hl h => S_impl_GoodRoleSet_0_12 hl _ (0 : Nat) _ rfl h)
  | cons e rest ih =>
    intro k r hr h
    obtain ⟨hk, hx, hr2⟩ := drop_cons (d := (Ty.dflt TyRole)) hr
    have hw := wrap_succ hl hk
    have ih2 : ∀ (r : Bool), P_impl_GoodRoleSet_0_6 x4 rest (k + 1) = some r → Ev (fun n => L_impl_GoodRoleSet_0_6 n x1 (x1.length : Int) (IntKind.wrap .i64 ((k : Int) + 1)) x4) r := by
      intro r h; rw [hw]; exact ih (k + 1) r hr2 h
    rw [P_impl_GoodRoleSet_0_6] at h
    refine Ev.step ?_ (fun n => L_impl_GoodRoleSet_0_6_eq n x1 (x1.length : Int) (k : Int) x4)
    rw [show decide ((k : Int) < (x1.length : Int)) = true from decide_eq_true (by omega), inB_nat2 hk, hx]
    exact Ev.pos rfl (Ev.pos rfl (Ev.ofBind h fun y1 h => (Ev.ofBif h (fun h => (Ev.ofSome h)) (fun h => (Ev.ofBif h (fun h => (Ev.ofBif h (fun h => (Ev.ofBif h (fun h => (Ev.ofSome h)) (fun h => (Ev.ofBind h fun y2 h => (Ev.ofBif h (fun h => (Ev.ofLen h fun hl h => S_impl_GoodRoleSet_0_2_1002_1005_8024 hl ih2 _ (0 : Nat) _ rfl h)) (fun h => (Ev.ofSome h))))))) (fun h => (Ev.ofNone h)))) (fun h => (Ev.ofBind h fun y8 h => (Ev.ofBif h (fun h => (Ev.ofLen h fun hl h => S_impl_GoodRoleSet_0_2_1002_1005_8024 hl ih2 _ (0 : Nat) _ rfl h)) (fun h => (Ev.ofSome h))))))))))
theorem S_impl_GoodRoleSet (a0 : DRoleSet) {r : Bool} (h : P_impl_GoodRoleSet a0 = some r) : Ev (fun n => F_impl_GoodRoleSet n a0) r := by
  rw [P_impl_GoodRoleSet] at h
  refine Ev.of_eq ?_ (fun n => F_impl_GoodRoleSet_eq n a0)
  exact (Ev.ofBif h (fun h => (Ev.ofSome h)) (fun h => (Ev.ofBif h (fun h => (Ev.ofSome h)) (fun h => (Ev.ofLen h fun hl h => S_impl_GoodRoleSet_0_6 hl _ (0 : Nat) _ rfl h)))))
theorem hcs_impl_GoodRoleSet : ∀ x ∈ cs_impl_GoodRoleSet, CtrOk Tryz.prog x := (conOf_cons ok_impl_GoodName (conOf_cons ok_impl_yrising (conOf_cons ok_impl_RoleSet_yrole (conOf_cons ok_impl_yallNames (conOf_cons ok_impl_RoleSet_yjuniors conOf_nil)))))
theorem ok_impl_GoodRoleSet : CtrOk Tryz.prog (c_impl_GoodRoleSet) := by
  refine ctr_of_run (c := c_impl_GoodRoleSet) (by kernel_rfl) (by kernel_rfl : Tryz.prog.funcs[62]? = some Tryz.f62) (code := Tryz.f62.body.getD .skip) (by kernel_rfl) (by kernel_rfl) (by kernel_rfl) (A := A_impl_GoodRoleSet) (I := In_impl_GoodRoleSet) (hcs_impl_GoodRoleSet) ?_
  rintro ⟨a0, u⟩ y hy
  exact (S_impl_GoodRoleSet a0 hy).get

/-! ## impl.ygoodRoleState (32) -/
noncomputable def P_impl_ygoodRoleState_0_2_1002_7009 : List DRoleGrant → Nat → Option Bool
  | [], k =>
      some true
  | e :: rest, k =>
      bif decide ((((((e).2).2).2).2).1 < 0) then
        some (!decide ((0 : Int) ≤ (k : Int)))
      else
        bif decide ((2 : Int) < (((((e).2).2).2).2).1) then
          some (!decide ((0 : Int) ≤ (k : Int)))
        else
          P_impl_ygoodRoleState_0_2_1002_7009 rest (k + 1)
noncomputable def P_impl_ygoodRoleState_0_3 (x5 : DRoleSet) (x6 : DRoleState) : List DRoleSession → Int → Option Bool
  | [], x1 =>
      Option.bind (P_impl_GoodRoleSet x5) fun (y1 : Bool) =>
      bif y1 then
        bif decide (x1 ≤ 300) then
          lenOk x6.2.1 (P_impl_ygoodRoleState_0_2_1002_7009 x6.2.1 0)
        else
          some false
      else
        some false
  | e :: rest, x1 =>
      P_impl_ygoodRoleState_0_3 x5 x6 rest (IntKind.wrap .i64 (x1 + (IntKind.wrap .i64 ((((((e).2).2).1).length : Int) + ((((((e).2).2).2).1).length : Int)))))
noncomputable def P_impl_ygoodRoleState (a0 : DRoleSet) (a1 : DRoleState) : Option Bool :=
  lenOk a1.2.2.1 (P_impl_ygoodRoleState_0_3 a0 a1 a1.2.2.1 (IntKind.wrap .i64 ((a1.2.1.length : Int) + (a1.2.2.1.length : Int))))
noncomputable def c_impl_ygoodRoleState : Ctr := ⟨32, [TyRoleSet, TyRoleState], [.bool], fun x => P_impl_ygoodRoleState x.1 x.2.1⟩
def A_impl_ygoodRoleState : List (List Nat × Ann) := [([0, 3], [.keep 0 2, .keep 0 3, .keep 0 5, .keep 0 16, .keep 0 17, .keep 0 18, .boxd 0 2 TyRoleSet, .boxd 0 3 TyRoleState]), ([0, 2, 1002, 7009], [.keep 0 38, .keep 2 0, .keep 2 1, .keep 2 7, .keep 2 8])]
def In_impl_ygoodRoleState : List (List Nat × Nat) := [([7009], 63), ([1002, 7009], 85), ([4005, 1002, 7009], 64)]
noncomputable def cs_impl_ygoodRoleState : List Ctr := [c_impl_GoodRoleSet]
noncomputable def F_impl_ygoodRoleState (n : Nat) (a0 : DRoleSet) (a1 : DRoleState) : Option Bool := run Tryz.prog A_impl_ygoodRoleState In_impl_ygoodRoleState (conOf cs_impl_ygoodRoleState) Tryz.f32 (Tryz.f32.body.getD .skip) (packT [.bool]) n (argsV [TyRoleSet, TyRoleState] (a0, a1, ()))
noncomputable abbrev L_impl_ygoodRoleState_0_3 (n : Nat) (x1 : Int) (x2 : (List DRoleSession)) (x3 : Int) (x4 : Int) (x5 : DRoleSet) (x6 : DRoleState) : Option Bool := lam Tryz.prog A_impl_ygoodRoleState In_impl_ygoodRoleState (conOf cs_impl_ygoodRoleState) Tryz.f32 (Tryz.f32.body.getD .skip) (packT [.bool]) n [0, 3] [.ptr 0 2 0, .ptr 0 3 0, .d I64 x1, .d (.list TyRoleSession) x2, .d I64 x3, .d I64 x4, .agg (explode TyRoleSet x5), .agg (explode TyRoleState x6)]
noncomputable abbrev L_impl_ygoodRoleState_0_2_1002_7009 (n : Nat) (x1 : Bool) (x2 : (List DRoleGrant)) (x3 : Int) (x4 : Int) : Option Bool := lam Tryz.prog A_impl_ygoodRoleState In_impl_ygoodRoleState (conOf cs_impl_ygoodRoleState) Tryz.f32 (Tryz.f32.body.getD .skip) (packT [.bool]) n [0, 2, 1002, 7009] [.d .bool x1, .d (.list TyRoleGrant) x2, .fn 64 [], .d I64 x3, .d I64 x4]
theorem F_impl_ygoodRoleState_eq (n : Nat) (a0 : DRoleSet) (a1 : DRoleState) : F_impl_ygoodRoleState n a0 a1 =
    L_impl_ygoodRoleState_0_3 n (IntKind.wrap .i64 ((a1.2.1.length : Int) + (a1.2.2.1.length : Int))) a1.2.2.1 (a1.2.2.1.length : Int) 0 a0 a1 := by kernel_rfl
theorem L_impl_ygoodRoleState_0_3_eq (n : Nat) (x1 : Int) (x2 : (List DRoleSession)) (x3 : Int) (x4 : Int) (x5 : DRoleSet) (x6 : DRoleState) : L_impl_ygoodRoleState_0_3 (n + 1) x1 x2 x3 x4 x5 x6 =
    bif decide (x4 < x3) then
      bif inB x4 x2.length then
        L_impl_ygoodRoleState_0_3 n (IntKind.wrap .i64 (x1 + (IntKind.wrap .i64 ((((((rd x2 x4 (Ty.dflt TyRoleSession)).2).2).1).length : Int) + ((((((rd x2 x4 (Ty.dflt TyRoleSession)).2).2).2).1).length : Int))))) x2 x3 (IntKind.wrap .i64 (x4 + 1)) x5 x6
      else none
    else
      Option.bind (P_impl_GoodRoleSet x5) fun (y1 : Bool) =>
      bif y1 then
        bif decide (x1 ≤ 300) then
          L_impl_ygoodRoleState_0_2_1002_7009 n true x6.2.1 (x6.2.1.length : Int) 0
        else
          some false
      else
        some false := by kernel_rfl
theorem L_impl_ygoodRoleState_0_2_1002_7009_eq (n : Nat) (x1 : Bool) (x2 : (List DRoleGrant)) (x3 : Int) (x4 : Int) : L_impl_ygoodRoleState_0_2_1002_7009 (n + 1) x1 x2 x3 x4 =
    bif decide (x4 < x3) then
      bif inB x4 x2.length then
        bif decide ((((((rd x2 x4 (Ty.dflt TyRoleGrant)).2).2).2).2).1 < 0) then
          bif x1 then
            some (!decide ((0 : Int) ≤ x4))
          else
            some false
        else
          bif decide ((2 : Int) < (((((rd x2 x4 (Ty.dflt TyRoleGrant)).2).2).2).2).1) then
            bif x1 then
              some (!decide ((0 : Int) ≤ x4))
            else
              some false
          else
            L_impl_ygoodRoleState_0_2_1002_7009 n x1 x2 x3 (IntKind.wrap .i64 (x4 + 1))
      else none
    else
      bif x1 then
        some true
      else
        some false := by kernel_rfl
theorem S_impl_ygoodRoleState_0_2_1002_7009 {x2 : (List DRoleGrant)} (hl : x2.length ≤ maxLen) : ∀ (rest : List DRoleGrant) (k : Nat) (r : Bool), rest = x2.drop k → P_impl_ygoodRoleState_0_2_1002_7009 rest k = some r → Ev (fun n => L_impl_ygoodRoleState_0_2_1002_7009 n true x2 (x2.length : Int) (k : Int)) r := by
  intro rest
  induction rest with
  | nil =>
    intro k r hr h
    have hk := drop_nil hr
    rw [P_impl_ygoodRoleState_0_2_1002_7009] at h
    refine Ev.step ?_ (fun n => L_impl_ygoodRoleState_0_2_1002_7009_eq n true x2 (x2.length : Int) (k : Int))
    rw [show decide ((k : Int) < (x2.length : Int)) = false from decide_eq_false (by omega)]
    exact Ev.neg rfl (Ev.pos rfl (Ev.ofSome h))
  | cons e rest ih =>
    intro k r hr h
    obtain ⟨hk, hx, hr2⟩ := drop_cons (d := (Ty.dflt TyRoleGrant)) hr
    have hw := wrap_succ hl hk
    have ih2 : ∀ (r : Bool), P_impl_ygoodRoleState_0_2_1002_7009 rest (k + 1) = some r → Ev (fun n => L_impl_ygoodRoleState_0_2_1002_7009 n true x2 (x2.length : Int) (IntKind.wrap .i64 ((k : Int) + 1))) r := by
      intro r h; rw [hw]; exact ih (k + 1) r hr2 h
    rw [P_impl_ygoodRoleState_0_2_1002_7009] at h
    refine Ev.step ?_ (fun n => L_impl_ygoodRoleState_0_2_1002_7009_eq n true x2 (x2.length : Int) (k : Int))
    rw [show decide ((k : Int) < (x2.length : Int)) = true from decide_eq_true (by omega), inB_nat2 hk, hx]
    exact Ev.pos rfl (Ev.pos rfl (Ev.ofBif h (fun h => (Ev.pos rfl (Ev.ofSome h))) (fun h => (Ev.ofBif h (fun h => (Ev.pos rfl (Ev.ofSome h))) (fun h => (ih2  _ h))))))
theorem S_impl_ygoodRoleState_0_3 {x2 : (List DRoleSession)} {x5 : DRoleSet} {x6 : DRoleState} (hl : x2.length ≤ maxLen) : ∀ (rest : List DRoleSession) (k : Nat) (x1 : Int) (r : Bool), rest = x2.drop k → P_impl_ygoodRoleState_0_3 x5 x6 rest x1 = some r → Ev (fun n => L_impl_ygoodRoleState_0_3 n x1 x2 (x2.length : Int) (k : Int) x5 x6) r := by
  intro rest
  induction rest with
  | nil =>
    intro k x1 r hr h
    have hk := drop_nil hr
    rw [P_impl_ygoodRoleState_0_3] at h
    refine Ev.step ?_ (fun n => L_impl_ygoodRoleState_0_3_eq n x1 x2 (x2.length : Int) (k : Int) x5 x6)
    rw [show decide ((k : Int) < (x2.length : Int)) = false from decide_eq_false (by omega)]
    exact Ev.neg rfl (Ev.ofBind h fun y1 h => (Ev.ofBif h (fun h => (Ev.ofBif h (fun h => (Ev.ofLen h fun hl h => S_impl_ygoodRoleState_0_2_1002_7009 hl _ (0 : Nat) _ rfl h)) (fun h => (Ev.ofSome h)))) (fun h => (Ev.ofSome h))))
  | cons e rest ih =>
    intro k x1 r hr h
    obtain ⟨hk, hx, hr2⟩ := drop_cons (d := (Ty.dflt TyRoleSession)) hr
    have hw := wrap_succ hl hk
    have ih2 : ∀ (z1 : Int) (r : Bool), P_impl_ygoodRoleState_0_3 x5 x6 rest z1 = some r → Ev (fun n => L_impl_ygoodRoleState_0_3 n z1 x2 (x2.length : Int) (IntKind.wrap .i64 ((k : Int) + 1)) x5 x6) r := by
      intro z1 r h; rw [hw]; exact ih (k + 1) z1 r hr2 h
    rw [P_impl_ygoodRoleState_0_3] at h
    refine Ev.step ?_ (fun n => L_impl_ygoodRoleState_0_3_eq n x1 x2 (x2.length : Int) (k : Int) x5 x6)
    rw [show decide ((k : Int) < (x2.length : Int)) = true from decide_eq_true (by omega), inB_nat2 hk, hx]
    exact Ev.pos rfl (Ev.pos rfl (ih2 _ _ h))
theorem S_impl_ygoodRoleState (a0 : DRoleSet) (a1 : DRoleState) {r : Bool} (h : P_impl_ygoodRoleState a0 a1 = some r) : Ev (fun n => F_impl_ygoodRoleState n a0 a1) r := by
  rw [P_impl_ygoodRoleState] at h
  refine Ev.of_eq ?_ (fun n => F_impl_ygoodRoleState_eq n a0 a1)
  exact (Ev.ofLen h fun hl h => S_impl_ygoodRoleState_0_3 hl _ (0 : Nat) _ _ rfl h)
theorem hcs_impl_ygoodRoleState : ∀ x ∈ cs_impl_ygoodRoleState, CtrOk Tryz.prog x := (conOf_cons ok_impl_GoodRoleSet conOf_nil)
theorem ok_impl_ygoodRoleState : CtrOk Tryz.prog (c_impl_ygoodRoleState) := by
  refine ctr_of_run (c := c_impl_ygoodRoleState) (by kernel_rfl) (by kernel_rfl : Tryz.prog.funcs[32]? = some Tryz.f32) (code := Tryz.f32.body.getD .skip) (by kernel_rfl) (by kernel_rfl) (by kernel_rfl) (A := A_impl_ygoodRoleState) (I := In_impl_ygoodRoleState) (hcs_impl_ygoodRoleState) ?_
  rintro ⟨a0, a1, u⟩ y hy
  exact (S_impl_ygoodRoleState a0 a1 hy).get

/-! ## impl.ycounts (66) -/
noncomputable def P_impl_ycounts_0_2_1002_3006 (Rc : (List DRoleGrant) → DRoleGrant → Int → Option Bool) (x2 : (List DRoleGrant)) (x5 : DRoleGrant) (x7 : Int) : List DRoleGrant → Nat → Option Bool
  | [], k =>
      bif false then
        some true
      else
        some false
  | e :: rest, k =>
      bif decide ((e).1 = x5.2.2.1) then
        bif decide (((e).2).1 = x5.2.1) then
          bif decide ((((((e).2).2).2).2).1 < x5.2.2.2.2.1) then
            Option.bind (Rc x2 (e) x7) fun (y1 : Bool) =>
            bif y1 then
              bif false then
                some true
              else
                some (decide ((0 : Int) ≤ (k : Int)))
            else
              P_impl_ycounts_0_2_1002_3006 Rc x2 x5 x7 rest (k + 1)
          else
            P_impl_ycounts_0_2_1002_3006 Rc x2 x5 x7 rest (k + 1)
        else
          P_impl_ycounts_0_2_1002_3006 Rc x2 x5 x7 rest (k + 1)
      else
        P_impl_ycounts_0_2_1002_3006 Rc x2 x5 x7 rest (k + 1)
noncomputable def P_impl_ycounts (Rc : (List DRoleGrant) → DRoleGrant → Int → Option Bool) (a0 : (List DRoleGrant)) (a1 : DRoleGrant) (a2 : Int) : Option Bool :=
  bif decide (a1.2.2.2.1 < a2) then
    some false
  else
    bif decide (a1.2.2.1 = ([] : List Int)) then
      some true
    else
      lenOk a0 (P_impl_ycounts_0_2_1002_3006 Rc a0 a1 a2 a0 0)
noncomputable def R_impl_ycounts : Nat → (List DRoleGrant) → DRoleGrant → Int → Option Bool
  | 0 => fun _ _ _ => none
  | d + 1 => fun a0 a1 a2 => P_impl_ycounts (R_impl_ycounts d) a0 a1 a2
noncomputable def E_impl_ycounts (a0 : (List DRoleGrant)) (a1 : DRoleGrant) (a2 : Int) : Option Bool := evOpt fun d => R_impl_ycounts d a0 a1 a2
noncomputable def c_impl_ycounts : Ctr := ⟨66, [(.list TyRoleGrant), TyRoleGrant, I64], [.bool], fun x => E_impl_ycounts x.1 x.2.1 x.2.2.1⟩
def A_impl_ycounts : List (List Nat × Ann) := [([0, 2, 1002, 3006], [.keep 0 14, .keep 2 0, .keep 2 1, .keep 2 7, .keep 2 8, .boxd 0 4 TyRoleGrant, .box 0 3 1, .box 0 5 1])]
def In_impl_ycounts : List (List Nat × Nat) := [([3006], 63), ([1002, 3006], 85), ([4005, 1002, 3006], 88)]
noncomputable def cs_impl_ycounts (Rc : (List DRoleGrant) → DRoleGrant → Int → Option Bool) : List Ctr := [⟨66, [(.list TyRoleGrant), TyRoleGrant, I64], [.bool], fun x => Rc x.1 x.2.1 x.2.2.1⟩]
noncomputable def F_impl_ycounts (Rc : (List DRoleGrant) → DRoleGrant → Int → Option Bool) (n : Nat) (a0 : (List DRoleGrant)) (a1 : DRoleGrant) (a2 : Int) : Option Bool := run Tryz.prog A_impl_ycounts In_impl_ycounts (conOf (cs_impl_ycounts Rc)) Tryz.f66 (Tryz.f66.body.getD .skip) (packT [.bool]) n (argsV [(.list TyRoleGrant), TyRoleGrant, I64] (a0, a1, a2, ()))
noncomputable abbrev L_impl_ycounts_0_2_1002_3006 (Rc : (List DRoleGrant) → DRoleGrant → Int → Option Bool) (n : Nat) (x1 : Bool) (x2 : (List DRoleGrant)) (x3 : Int) (x4 : Int) (x5 : DRoleGrant) (x6 : (List DRoleGrant)) (x7 : Int) : Option Bool := lam Tryz.prog A_impl_ycounts In_impl_ycounts (conOf (cs_impl_ycounts Rc)) Tryz.f66 (Tryz.f66.body.getD .skip) (packT [.bool]) n [0, 2, 1002, 3006] [.d .bool x1, .d (.list TyRoleGrant) x2, .fn 88 [.ptr 0 4 0, .ptr 0 3 0, .ptr 0 5 0], .d I64 x3, .d I64 x4, .agg (explode TyRoleGrant x5), .agg [.d (.list TyRoleGrant) x6], .agg [.d I64 x7]]
theorem F_impl_ycounts_eq (Rc : (List DRoleGrant) → DRoleGrant → Int → Option Bool) (n : Nat) (a0 : (List DRoleGrant)) (a1 : DRoleGrant) (a2 : Int) : F_impl_ycounts Rc n a0 a1 a2 =
    bif decide (a1.2.2.2.1 < a2) then
      some false
    else
      bif decide (a1.2.2.1 = ([] : List Int)) then
        some true
      else
        L_impl_ycounts_0_2_1002_3006 Rc n false a0 (a0.length : Int) 0 a1 a0 a2 := by kernel_rfl
theorem L_impl_ycounts_0_2_1002_3006_eq (Rc : (List DRoleGrant) → DRoleGrant → Int → Option Bool) (n : Nat) (x1 : Bool) (x2 : (List DRoleGrant)) (x3 : Int) (x4 : Int) (x5 : DRoleGrant) (x6 : (List DRoleGrant)) (x7 : Int) : L_impl_ycounts_0_2_1002_3006 Rc (n + 1) x1 x2 x3 x4 x5 x6 x7 =
    bif decide (x4 < x3) then
      bif inB x4 x2.length then
        bif decide ((rd x2 x4 (Ty.dflt TyRoleGrant)).1 = x5.2.2.1) then
          bif decide (((rd x2 x4 (Ty.dflt TyRoleGrant)).2).1 = x5.2.1) then
            bif decide ((((((rd x2 x4 (Ty.dflt TyRoleGrant)).2).2).2).2).1 < x5.2.2.2.2.1) then
              Option.bind (Rc x6 (rd x2 x4 (Ty.dflt TyRoleGrant)) x7) fun (y1 : Bool) =>
              bif y1 then
                bif x1 then
                  some true
                else
                  some (decide ((0 : Int) ≤ x4))
              else
                L_impl_ycounts_0_2_1002_3006 Rc n x1 x2 x3 (IntKind.wrap .i64 (x4 + 1)) x5 x6 x7
            else
              L_impl_ycounts_0_2_1002_3006 Rc n x1 x2 x3 (IntKind.wrap .i64 (x4 + 1)) x5 x6 x7
          else
            L_impl_ycounts_0_2_1002_3006 Rc n x1 x2 x3 (IntKind.wrap .i64 (x4 + 1)) x5 x6 x7
        else
          L_impl_ycounts_0_2_1002_3006 Rc n x1 x2 x3 (IntKind.wrap .i64 (x4 + 1)) x5 x6 x7
      else none
    else
      bif x1 then
        some true
      else
        some false := by kernel_rfl
theorem S_impl_ycounts_0_2_1002_3006 {Rc : (List DRoleGrant) → DRoleGrant → Int → Option Bool} {x2 : (List DRoleGrant)} {x5 : DRoleGrant} {x7 : Int} (hl : x2.length ≤ maxLen) : ∀ (rest : List DRoleGrant) (k : Nat) (r : Bool), rest = x2.drop k → P_impl_ycounts_0_2_1002_3006 Rc x2 x5 x7 rest k = some r → Ev (fun n => L_impl_ycounts_0_2_1002_3006 Rc n false x2 (x2.length : Int) (k : Int) x5 x2 x7) r := by
  intro rest
  induction rest with
  | nil =>
    intro k r hr h
    have hk := drop_nil hr
    rw [P_impl_ycounts_0_2_1002_3006] at h
    refine Ev.step ?_ (fun n => L_impl_ycounts_0_2_1002_3006_eq Rc n false x2 (x2.length : Int) (k : Int) x5 x2 x7)
    rw [show decide ((k : Int) < (x2.length : Int)) = false from decide_eq_false (by omega)]
    exact Ev.neg rfl (Ev.ofBif h (fun h => (Ev.ofSome h)) (fun h => (Ev.ofSome h)))
  | cons e rest ih =>
    intro k r hr h
    obtain ⟨hk, hx, hr2⟩ := drop_cons (d := (Ty.dflt TyRoleGrant)) hr
    have hw := wrap_succ hl hk
    have ih2 : ∀ (r : Bool), P_impl_ycounts_0_2_1002_3006 Rc x2 x5 x7 rest (k + 1) = some r → Ev (fun n => L_impl_ycounts_0_2_1002_3006 Rc n false x2 (x2.length : Int) (IntKind.wrap .i64 ((k : Int) + 1)) x5 x2 x7) r := by
      intro r h; rw [hw]; exact ih (k + 1) r hr2 h
    rw [P_impl_ycounts_0_2_1002_3006] at h
    refine Ev.step ?_ (fun n => L_impl_ycounts_0_2_1002_3006_eq Rc n false x2 (x2.length : Int) (k : Int) x5 x2 x7)
    rw [show decide ((k : Int) < (x2.length : Int)) = true from decide_eq_true (by omega), inB_nat2 hk, hx]
    exact Ev.pos rfl (Ev.pos rfl (Ev.ofBif h (fun h => (Ev.ofBif h (fun h => (Ev.ofBif h (fun h => (Ev.ofBind h fun y1 h => (Ev.ofBif h (fun h => (Ev.ofBif h (fun h => (Ev.ofSome h)) (fun h => (Ev.ofSome h)))) (fun h => (ih2  _ h))))) (fun h => (ih2  _ h)))) (fun h => (ih2  _ h)))) (fun h => (ih2  _ h))))
theorem S_impl_ycounts {Rc : (List DRoleGrant) → DRoleGrant → Int → Option Bool} (a0 : (List DRoleGrant)) (a1 : DRoleGrant) (a2 : Int) {r : Bool} (h : P_impl_ycounts Rc a0 a1 a2 = some r) : Ev (fun n => F_impl_ycounts Rc n a0 a1 a2) r := by
  rw [P_impl_ycounts] at h
  refine Ev.of_eq ?_ (fun n => F_impl_ycounts_eq Rc n a0 a1 a2)
  exact (Ev.ofBif h (fun h => (Ev.ofSome h)) (fun h => (Ev.ofBif h (fun h => (Ev.ofSome h)) (fun h => (Ev.ofLen h fun hl h => S_impl_ycounts_0_2_1002_3006 hl _ (0 : Nat) _ rfl h)))))
theorem okR_impl_ycounts : ∀ d, CtrOk Tryz.prog (⟨66, [(.list TyRoleGrant), TyRoleGrant, I64], [.bool], fun x => R_impl_ycounts d x.1 x.2.1 x.2.2.1⟩ : Ctr) := by
  intro d
  induction d with
  | zero => intro xs y hy; exact (nomatch (show (none : Option Bool) = some y from hy))
  | succ d ih =>
    refine ctr_of_run (by kernel_rfl) (by kernel_rfl : Tryz.prog.funcs[66]? = some Tryz.f66) (code := Tryz.f66.body.getD .skip) (by kernel_rfl) (by kernel_rfl) (by kernel_rfl) (A := A_impl_ycounts) (I := In_impl_ycounts) (cs := cs_impl_ycounts (R_impl_ycounts d)) (conOf_cons ih conOf_nil) ?_
    rintro ⟨a0, a1, a2, u⟩ y hy
    exact (S_impl_ycounts a0 a1 a2 hy).get
theorem ok_impl_ycounts : CtrOk Tryz.prog (c_impl_ycounts) := by
  rintro ⟨a0, a1, a2, u⟩ y hy
  obtain ⟨d, hd⟩ := (evOpt_get hy).get
  exact okR_impl_ycounts d (a0, a1, a2, u) y hd

/-! ## impl.RoleSet).yauthorised (34) -/
noncomputable def P_impl_RoleSet_yauthorised_0_3 (x1 : (List DRoleGrant)) (x2 : (List Int)) (x3 : Int) (x8 : DRoleSet) : List DRoleGrant → (List (List Int)) → Option (List ((List Int) × Bool))
  | [], x4 =>
      Option.bind (E_impl_RoleSet_yjuniors x8 x4) fun (y2 : (List ((List Int) × Bool))) =>
      some y2
  | e :: rest, x4 =>
      bif decide ((e).1 = x2) then
        Option.bind (E_impl_ycounts x1 (e) x3) fun (y1 : Bool) =>
        bif y1 then
          bif decide (((x4.length : Int) + (([((e).2).1] : List (List Int)).length : Int)) * 16 ≤ room) && decide ((x4.length : Int) + (([((e).2).1] : List (List Int)).length : Int) ≤ room) then
            P_impl_RoleSet_yauthorised_0_3 x1 x2 x3 x8 rest (x4 ++ ([((e).2).1] : List (List Int)))
          else none
        else
          P_impl_RoleSet_yauthorised_0_3 x1 x2 x3 x8 rest x4
      else
        P_impl_RoleSet_yauthorised_0_3 x1 x2 x3 x8 rest x4
noncomputable def P_impl_RoleSet_yauthorised (a0 : DRoleSet) (a1 : (List DRoleGrant)) (a2 : (List Int)) (a3 : Int) : Option (List ((List Int) × Bool)) :=
  lenOk a1 (P_impl_RoleSet_yauthorised_0_3 a1 a2 a3 a0 a1 [])
noncomputable def c_impl_RoleSet_yauthorised : Ctr := ⟨34, [TyRoleSet, (.list TyRoleGrant), .str, I64], [(.map .str .bool)], fun x => P_impl_RoleSet_yauthorised x.1 x.2.1 x.2.2.1 x.2.2.2.1⟩
def A_impl_RoleSet_yauthorised : List (List Nat × Ann) := [([0, 3], [.keep 0 1, .keep 0 2, .keep 0 3, .keep 0 4, .own 0 9 .str, .keep 0 12, .keep 0 13, .keep 0 14, .boxd 0 4 TyRoleSet])]
def In_impl_RoleSet_yauthorised : List (List Nat × Nat) := []
noncomputable def cs_impl_RoleSet_yauthorised : List Ctr := [c_impl_ycounts, c_impl_RoleSet_yjuniors]
noncomputable def F_impl_RoleSet_yauthorised (n : Nat) (a0 : DRoleSet) (a1 : (List DRoleGrant)) (a2 : (List Int)) (a3 : Int) : Option (List ((List Int) × Bool)) := run Tryz.prog A_impl_RoleSet_yauthorised In_impl_RoleSet_yauthorised (conOf cs_impl_RoleSet_yauthorised) Tryz.f34 (Tryz.f34.body.getD .skip) (packT [(.map .str .bool)]) n (argsV [TyRoleSet, (.list TyRoleGrant), .str, I64] (a0, a1, a2, a3, ()))
noncomputable abbrev L_impl_RoleSet_yauthorised_0_3 (n : Nat) (x1 : (List DRoleGrant)) (x2 : (List Int)) (x3 : Int) (x4 : (List (List Int))) (x5 : (List DRoleGrant)) (x6 : Int) (x7 : Int) (x8 : DRoleSet) : Option (List ((List Int) × Bool)) := lam Tryz.prog A_impl_RoleSet_yauthorised In_impl_RoleSet_yauthorised (conOf cs_impl_RoleSet_yauthorised) Tryz.f34 (Tryz.f34.body.getD .skip) (packT [(.map .str .bool)]) n [0, 3] [.d (.list TyRoleGrant) x1, .d .str x2, .d I64 x3, .ptr 0 4 0, .own 0 .str x4, .d (.list TyRoleGrant) x5, .d I64 x6, .d I64 x7, .agg (explode TyRoleSet x8)]
theorem F_impl_RoleSet_yauthorised_eq (n : Nat) (a0 : DRoleSet) (a1 : (List DRoleGrant)) (a2 : (List Int)) (a3 : Int) : F_impl_RoleSet_yauthorised n a0 a1 a2 a3 =
    L_impl_RoleSet_yauthorised_0_3 n a1 a2 a3 [] a1 (a1.length : Int) 0 a0 := by kernel_rfl
theorem L_impl_RoleSet_yauthorised_0_3_eq (n : Nat) (x1 : (List DRoleGrant)) (x2 : (List Int)) (x3 : Int) (x4 : (List (List Int))) (x5 : (List DRoleGrant)) (x6 : Int) (x7 : Int) (x8 : DRoleSet) : L_impl_RoleSet_yauthorised_0_3 (n + 1) x1 x2 x3 x4 x5 x6 x7 x8 =
    bif decide (x7 < x6) then
      bif inB x7 x5.length then
        bif decide ((rd x5 x7 (Ty.dflt TyRoleGrant)).1 = x2) then
          Option.bind (E_impl_ycounts x1 (rd x5 x7 (Ty.dflt TyRoleGrant)) x3) fun (y1 : Bool) =>
          bif y1 then
            bif decide (((x4.length : Int) + (([((rd x5 x7 (Ty.dflt TyRoleGrant)).2).1] : List (List Int)).length : Int)) * 16 ≤ room) && decide ((x4.length : Int) + (([((rd x5 x7 (Ty.dflt TyRoleGrant)).2).1] : List (List Int)).length : Int) ≤ room) then
              L_impl_RoleSet_yauthorised_0_3 n x1 x2 x3 (x4 ++ ([((rd x5 x7 (Ty.dflt TyRoleGrant)).2).1] : List (List Int))) x5 x6 (IntKind.wrap .i64 (x7 + 1)) x8
            else none
          else
            L_impl_RoleSet_yauthorised_0_3 n x1 x2 x3 x4 x5 x6 (IntKind.wrap .i64 (x7 + 1)) x8
        else
          L_impl_RoleSet_yauthorised_0_3 n x1 x2 x3 x4 x5 x6 (IntKind.wrap .i64 (x7 + 1)) x8
      else none
    else
      Option.bind (E_impl_RoleSet_yjuniors x8 x4) fun (y2 : (List ((List Int) × Bool))) =>
      some y2 := by kernel_rfl
theorem S_impl_RoleSet_yauthorised_0_3 {x1 : (List DRoleGrant)} {x2 : (List Int)} {x3 : Int} {x8 : DRoleSet} (hl : x1.length ≤ maxLen) : ∀ (rest : List DRoleGrant) (k : Nat) (x4 : (List (List Int))) (r : (List ((List Int) × Bool))), rest = x1.drop k → P_impl_RoleSet_yauthorised_0_3 x1 x2 x3 x8 rest x4 = some r → Ev (fun n => L_impl_RoleSet_yauthorised_0_3 n x1 x2 x3 x4 x1 (x1.length : Int) (k : Int) x8) r := by
  intro rest
  induction rest with
  | nil =>
    intro k x4 r hr h
    have hk := drop_nil hr
    rw [P_impl_RoleSet_yauthorised_0_3] at h
    refine Ev.step ?_ (fun n => L_impl_RoleSet_yauthorised_0_3_eq n x1 x2 x3 x4 x1 (x1.length : Int) (k : Int) x8)
    rw [show decide ((k : Int) < (x1.length : Int)) = false from decide_eq_false (by omega)]
    exact Ev.neg rfl (Ev.ofBind h fun y2 h => (Ev.ofSome h))
  | cons e rest ih =>
    intro k x4 r hr h
    obtain ⟨hk, hx, hr2⟩ := drop_cons (d := (Ty.dflt TyRoleGrant)) hr
    have hw := wrap_succ hl hk
    have ih2 : ∀ (z4 : (List (List Int))) (r : (List ((List Int) × Bool))), P_impl_RoleSet_yauthorised_0_3 x1 x2 x3 x8 rest z4 = some r → Ev (fun n => L_impl_RoleSet_yauthorised_0_3 n x1 x2 x3 z4 x1 (x1.length : Int) (IntKind.wrap .i64 ((k : Int) + 1)) x8) r := by
      intro z4 r h; rw [hw]; exact ih (k + 1) z4 r hr2 h
    rw [P_impl_RoleSet_yauthorised_0_3] at h
    refine Ev.step ?_ (fun n => L_impl_RoleSet_yauthorised_0_3_eq n x1 x2 x3 x4 x1 (x1.length : Int) (k : Int) x8)
    rw [show decide ((k : Int) < (x1.length : Int)) = true from decide_eq_true (by omega), inB_nat2 hk, hx]
    exact Ev.pos rfl (Ev.pos rfl (Ev.ofBif h (fun h => (Ev.ofBind h fun y1 h => (Ev.ofBif h (fun h => (Ev.ofBif h (fun h => (ih2 _ _ h)) (fun h => (Ev.ofNone h)))) (fun h => (ih2 _ _ h))))) (fun h => (ih2 _ _ h))))
theorem S_impl_RoleSet_yauthorised (a0 : DRoleSet) (a1 : (List DRoleGrant)) (a2 : (List Int)) (a3 : Int) {r : (List ((List Int) × Bool))} (h : P_impl_RoleSet_yauthorised a0 a1 a2 a3 = some r) : Ev (fun n => F_impl_RoleSet_yauthorised n a0 a1 a2 a3) r := by
  rw [P_impl_RoleSet_yauthorised] at h
  refine Ev.of_eq ?_ (fun n => F_impl_RoleSet_yauthorised_eq n a0 a1 a2 a3)
  exact (Ev.ofLen h fun hl h => S_impl_RoleSet_yauthorised_0_3 hl _ (0 : Nat) _ _ rfl h)
theorem hcs_impl_RoleSet_yauthorised : ∀ x ∈ cs_impl_RoleSet_yauthorised, CtrOk Tryz.prog x := (conOf_cons ok_impl_ycounts (conOf_cons ok_impl_RoleSet_yjuniors conOf_nil))
theorem ok_impl_RoleSet_yauthorised : CtrOk Tryz.prog (c_impl_RoleSet_yauthorised) := by
  refine ctr_of_run (c := c_impl_RoleSet_yauthorised) (by kernel_rfl) (by kernel_rfl : Tryz.prog.funcs[34]? = some Tryz.f34) (code := Tryz.f34.body.getD .skip) (by kernel_rfl) (by kernel_rfl) (by kernel_rfl) (A := A_impl_RoleSet_yauthorised) (I := In_impl_RoleSet_yauthorised) (hcs_impl_RoleSet_yauthorised) ?_
  rintro ⟨a0, a1, a2, a3, u⟩ y hy
  exact (S_impl_RoleSet_yauthorised a0 a1 a2 a3 hy).get

/-! ## impl.ysorted (33) -/
noncomputable def co_impl_ysorted : Ctr := ownOf 33 [(.map .str .bool)] .str fun x => keysF (v := .bool) x.1
theorem oko_impl_ysorted : CtrOk Tryz.prog co_impl_ysorted := keys_own (v := .bool) (by kernel_rfl) (by kernel_rfl : Tryz.prog.funcs[33]? = some Tryz.f33) (c := Tryz.f33.body.getD .skip) (by kernel_rfl) (by kernel_rfl) (gs := 65) (ts := 24) ⟨by kernel_rfl, Tryz.sort_string, Tryz.sort_string_none⟩ (by kernel_rfl)
noncomputable def c_impl_ysorted : Ctr := ⟨33, [(.map .str .bool)], [(.list .str)], fun x => keysF (v := .bool) x.1⟩
theorem ok_impl_ysorted : CtrOk Tryz.prog c_impl_ysorted := plain_of_own (by kernel_rfl) oko_impl_ysorted

/-! ## impl.Authorised (9) -/
noncomputable def P_impl_Authorised (a0 : DRoleSet) (a1 : DRoleState) (a2 : (List Int)) (a3 : Int) : Option (List (List Int)) :=
  Option.bind (P_impl_ygoodRoleState a0 a1) fun (y1 : Bool) =>
  bif !(y1) then
    some ([])
  else
    bif decide (a3 < a1.2.2.2) then
      some ([])
    else
      Option.bind (P_impl_RoleSet_yauthorised a0 a1.2.1 a2 a3) fun (y2 : (List ((List Int) × Bool))) =>
      Option.bind (keysF (v := .bool) y2) fun (y3 : (List (List Int))) =>
      some y3
noncomputable def c_impl_Authorised : Ctr := ⟨9, [TyRoleSet, TyRoleState, .str, I64], [(.list .str)], fun x => P_impl_Authorised x.1 x.2.1 x.2.2.1 x.2.2.2.1⟩
def A_impl_Authorised : List (List Nat × Ann) := []
def In_impl_Authorised : List (List Nat × Nat) := []
noncomputable def cs_impl_Authorised : List Ctr := [c_impl_ygoodRoleState, c_impl_RoleSet_yauthorised, c_impl_ysorted]
noncomputable def F_impl_Authorised (n : Nat) (a0 : DRoleSet) (a1 : DRoleState) (a2 : (List Int)) (a3 : Int) : Option (List (List Int)) := run Tryz.prog A_impl_Authorised In_impl_Authorised (conOf cs_impl_Authorised) Tryz.f9 (Tryz.f9.body.getD .skip) (packT [(.list .str)]) n (argsV [TyRoleSet, TyRoleState, .str, I64] (a0, a1, a2, a3, ()))
theorem F_impl_Authorised_eq (n : Nat) (a0 : DRoleSet) (a1 : DRoleState) (a2 : (List Int)) (a3 : Int) : F_impl_Authorised n a0 a1 a2 a3 =
    Option.bind (P_impl_ygoodRoleState a0 a1) fun (y1 : Bool) =>
    bif !(y1) then
      some ([])
    else
      bif decide (a3 < a1.2.2.2) then
        some ([])
      else
        Option.bind (P_impl_RoleSet_yauthorised a0 a1.2.1 a2 a3) fun (y2 : (List ((List Int) × Bool))) =>
        Option.bind (keysF (v := .bool) y2) fun (y3 : (List (List Int))) =>
        some y3 := by kernel_rfl
theorem S_impl_Authorised (a0 : DRoleSet) (a1 : DRoleState) (a2 : (List Int)) (a3 : Int) {r : (List (List Int))} (h : P_impl_Authorised a0 a1 a2 a3 = some r) : Ev (fun n => F_impl_Authorised n a0 a1 a2 a3) r := by
  rw [P_impl_Authorised] at h
  refine Ev.of_eq ?_ (fun n => F_impl_Authorised_eq n a0 a1 a2 a3)
  exact (Ev.ofBind h fun y1 h => (Ev.ofBif h (fun h => (Ev.ofSome h)) (fun h => (Ev.ofBif h (fun h => (Ev.ofSome h)) (fun h => (Ev.ofBind h fun y2 h => (Ev.ofBind h fun y3 h => (Ev.ofSome h))))))))
theorem hcs_impl_Authorised : ∀ x ∈ cs_impl_Authorised, CtrOk Tryz.prog x := (conOf_cons ok_impl_ygoodRoleState (conOf_cons ok_impl_RoleSet_yauthorised (conOf_cons ok_impl_ysorted conOf_nil)))
theorem ok_impl_Authorised : CtrOk Tryz.prog (c_impl_Authorised) := by
  refine ctr_of_run (c := c_impl_Authorised) (by kernel_rfl) (by kernel_rfl : Tryz.prog.funcs[9]? = some Tryz.f9) (code := Tryz.f9.body.getD .skip) (by kernel_rfl) (by kernel_rfl) (by kernel_rfl) (A := A_impl_Authorised) (I := In_impl_Authorised) (hcs_impl_Authorised) ?_
  rintro ⟨a0, a1, a2, a3, u⟩ y hy
  exact (S_impl_Authorised a0 a1 a2 a3 hy).get

/-! ## laws.toStringS (28) -/
noncomputable def c_laws_toStringS : Ctr := ⟨28, [(.list .str)], [(.list .str)], fun x => toC (.list .str) x.1⟩
def A_laws_toStringS : List (List Nat × Ann) := [([0, 3], [.keep 0 0, .keep 0 3, .keep 0 4, .rows 0 7 .str])]
def In_laws_toStringS : List (List Nat × Nat) := []
noncomputable def cs_laws_toStringS : List Ctr := []
noncomputable def F_laws_toStringS (n : Nat) (a0 : (List (List Int))) : Option (List (List Int)) := run Tryz.prog A_laws_toStringS In_laws_toStringS (conOf cs_laws_toStringS) Tryz.f28 (Tryz.f28.body.getD .skip) (packT [(.list .str)]) n (argsV [(.list .str)] (a0, ()))
noncomputable abbrev L_laws_toStringS_0_3 (n : Nat) (x1 : (List (List Int))) (x2 : Int) (x3 : (List (List Int))) : Option (List (List Int)) := lam Tryz.prog A_laws_toStringS In_laws_toStringS (conOf cs_laws_toStringS) Tryz.f28 (Tryz.f28.body.getD .skip) (packT [(.list .str)]) n [0, 3] [.d (.list .str) x1, .msl 0 7, .d I64 x2, .d (.list .str) x3]
theorem F_laws_toStringS_eq (n : Nat) (a0 : (List (List Int))) : F_laws_toStringS n a0 =
    bif decide ((a0.length : Int) = (a0.length : Int)) && decide ((0 : Int) ≤ (a0.length : Int)) && decide ((a0.length : Int) * 16 ≤ room) && true then
      L_laws_toStringS_0_3 n a0 0 (List.replicate (Int.toNat (a0.length : Int)) ([] : List Int))
    else none := by kernel_rfl
theorem L_laws_toStringS_0_3_eq (n : Nat) (x1 : (List (List Int))) (x2 : Int) (x3 : (List (List Int))) : L_laws_toStringS_0_3 (n + 1) x1 x2 x3 =
    bif decide (x2 < (x1.length : Int)) then
      bif inB x2 x1.length then
        bif inB x2 x3.length then
          bif inB x2 x3.length && true && true && true && true then
            L_laws_toStringS_0_3 n x1 (IntKind.wrap .i64 (x2 + 1)) (x3.set (Int.toNat x2) (rd x1 x2 (Ty.dflt .str)))
          else none
        else none
      else none
    else
      some x3 := by kernel_rfl
theorem mk_laws_toStringS (hcs : ∀ x ∈ cs_laws_toStringS, CtrOk Tryz.prog x) (h : ∀ (a0 : (List (List Int))) y, toC (.list .str) a0 = some y → ∃ n, F_laws_toStringS n a0 = some y) : CtrOk Tryz.prog c_laws_toStringS := by
  refine ctr_of_run (c := c_laws_toStringS) (by kernel_rfl) (by kernel_rfl : Tryz.prog.funcs[28]? = some Tryz.f28) (code := Tryz.f28.body.getD .skip) (by kernel_rfl) (by kernel_rfl) (by kernel_rfl) (A := A_laws_toStringS) (I := In_laws_toStringS) hcs ?_
  rintro ⟨a0, u⟩ y hy
  exact h a0 y hy

theorem hcs_laws_toStringS : ∀ x ∈ cs_laws_toStringS, CtrOk Tryz.prog x := conOf_nil
theorem ok_laws_toStringS : CtrOk Tryz.prog c_laws_toStringS := mk_laws_toStringS hcs_laws_toStringS fun a0 y hy => by
  obtain ⟨n, hn⟩ := toS_ok (t := .str) (f := fun x => some x) (fun x _ _ => rfl) (by_ := 16) (by omega) (fun n xs i out => L_laws_toStringS_0_3_eq n xs i out) hy
  exact ⟨n, (F_laws_toStringS_eq n a0).trans hn⟩
/-! ## laws.toRole (58) -/
noncomputable def c_laws_toRole : Ctr := ⟨58, [TyRole], [TyRole], fun x => toC TyRole x.1⟩
def A_laws_toRole : List (List Nat × Ann) := []
def In_laws_toRole : List (List Nat × Nat) := []
noncomputable def cs_laws_toRole : List Ctr := [c_laws_toStringS]
noncomputable def F_laws_toRole (n : Nat) (a0 : DRole) : Option DRole := run Tryz.prog A_laws_toRole In_laws_toRole (conOf cs_laws_toRole) Tryz.f58 (Tryz.f58.body.getD .skip) (packT [TyRole]) n (argsV [TyRole] (a0, ()))
theorem F_laws_toRole_eq (n : Nat) (a0 : DRole) : F_laws_toRole n a0 =
    Option.bind (toC (.list .str) a0.2.1) fun (y1 : (List (List Int))) =>
    Option.bind (toC (.list .str) a0.2.2) fun (y2 : (List (List Int))) =>
    some (a0.1, y1, y2) := by kernel_rfl
theorem mk_laws_toRole (hcs : ∀ x ∈ cs_laws_toRole, CtrOk Tryz.prog x) (h : ∀ (a0 : DRole) y, toC TyRole a0 = some y → ∃ n, F_laws_toRole n a0 = some y) : CtrOk Tryz.prog c_laws_toRole := by
  refine ctr_of_run (c := c_laws_toRole) (by kernel_rfl) (by kernel_rfl : Tryz.prog.funcs[58]? = some Tryz.f58) (code := Tryz.f58.body.getD .skip) (by kernel_rfl) (by kernel_rfl) (by kernel_rfl) (A := A_laws_toRole) (I := In_laws_toRole) hcs ?_
  rintro ⟨a0, u⟩ y hy
  exact h a0 y hy

theorem hcs_laws_toRole : ∀ x ∈ cs_laws_toRole, CtrOk Tryz.prog x := (conOf_cons ok_laws_toStringS conOf_nil)
theorem ok_laws_toRole : CtrOk Tryz.prog c_laws_toRole := mk_laws_toRole hcs_laws_toRole fun a0 y hy => by
  obtain ⟨hw, hs, rfl⟩ := toC_inv hy
  have hw2 : wfD .str y.1 ∧ wfD (.list .str) y.2.1 ∧ wfD (.list .str) y.2.2 := hw
  have hs2 : Ty.size .str y.1 + (Ty.size (.list .str) y.2.1 + (Ty.size (.list .str) y.2.2)) ≤ 1073741824 := hs
  refine ⟨0, ?_⟩
  rw [F_laws_toRole_eq]
  try (rw [toC_some hw2.2.1 (by omega)]; simp only [Option.bind_some])
  try (rw [toC_some hw2.2.2 (by omega)]; simp only [Option.bind_some])
  try rfl
/-! ## laws.toRoleS (26) -/
noncomputable def c_laws_toRoleS : Ctr := ⟨26, [(.list TyRole)], [(.list TyRole)], fun x => toC (.list TyRole) x.1⟩
def A_laws_toRoleS : List (List Nat × Ann) := [([0, 3], [.keep 0 0, .keep 0 3, .keep 0 4, .rows 0 7 TyRole])]
def In_laws_toRoleS : List (List Nat × Nat) := []
noncomputable def cs_laws_toRoleS : List Ctr := [c_laws_toRole]
noncomputable def F_laws_toRoleS (n : Nat) (a0 : (List DRole)) : Option (List DRole) := run Tryz.prog A_laws_toRoleS In_laws_toRoleS (conOf cs_laws_toRoleS) Tryz.f26 (Tryz.f26.body.getD .skip) (packT [(.list TyRole)]) n (argsV [(.list TyRole)] (a0, ()))
noncomputable abbrev L_laws_toRoleS_0_3 (n : Nat) (x1 : (List DRole)) (x2 : Int) (x3 : (List DRole)) : Option (List DRole) := lam Tryz.prog A_laws_toRoleS In_laws_toRoleS (conOf cs_laws_toRoleS) Tryz.f26 (Tryz.f26.body.getD .skip) (packT [(.list TyRole)]) n [0, 3] [.d (.list TyRole) x1, .msl 0 7, .d I64 x2, .d (.list TyRole) x3]
theorem F_laws_toRoleS_eq (n : Nat) (a0 : (List DRole)) : F_laws_toRoleS n a0 =
    bif decide ((a0.length : Int) = (a0.length : Int)) && decide ((0 : Int) ≤ (a0.length : Int)) && decide ((a0.length : Int) * 64 ≤ room) && true then
      L_laws_toRoleS_0_3 n a0 0 (List.replicate (Int.toNat (a0.length : Int)) (([] : List Int), [], []))
    else none := by kernel_rfl
theorem L_laws_toRoleS_0_3_eq (n : Nat) (x1 : (List DRole)) (x2 : Int) (x3 : (List DRole)) : L_laws_toRoleS_0_3 (n + 1) x1 x2 x3 =
    bif decide (x2 < (x1.length : Int)) then
      bif inB x2 x1.length then
        Option.bind (toC TyRole (rd x1 x2 (Ty.dflt TyRole))) fun (y1 : DRole) =>
        bif inB x2 x3.length then
          bif inB x2 x3.length && true && true && true && true then
            L_laws_toRoleS_0_3 n x1 (IntKind.wrap .i64 (x2 + 1)) (x3.set (Int.toNat x2) y1)
          else none
        else none
      else none
    else
      some x3 := by kernel_rfl
theorem mk_laws_toRoleS (hcs : ∀ x ∈ cs_laws_toRoleS, CtrOk Tryz.prog x) (h : ∀ (a0 : (List DRole)) y, toC (.list TyRole) a0 = some y → ∃ n, F_laws_toRoleS n a0 = some y) : CtrOk Tryz.prog c_laws_toRoleS := by
  refine ctr_of_run (c := c_laws_toRoleS) (by kernel_rfl) (by kernel_rfl : Tryz.prog.funcs[26]? = some Tryz.f26) (code := Tryz.f26.body.getD .skip) (by kernel_rfl) (by kernel_rfl) (by kernel_rfl) (A := A_laws_toRoleS) (I := In_laws_toRoleS) hcs ?_
  rintro ⟨a0, u⟩ y hy
  exact h a0 y hy

theorem hcs_laws_toRoleS : ∀ x ∈ cs_laws_toRoleS, CtrOk Tryz.prog x := (conOf_cons ok_laws_toRole conOf_nil)
theorem ok_laws_toRoleS : CtrOk Tryz.prog c_laws_toRoleS := mk_laws_toRoleS hcs_laws_toRoleS fun a0 y hy => by
  obtain ⟨n, hn⟩ := toS_ok (t := TyRole) (f := toC TyRole) (fun x h h2 => toC_some h h2) (by_ := 64) (by omega) (fun n xs i out => L_laws_toRoleS_0_3_eq n xs i out) hy
  exact ⟨n, (F_laws_toRoleS_eq n a0).trans hn⟩
/-! ## laws.toApart (59) -/
noncomputable def c_laws_toApart : Ctr := ⟨59, [TyApart], [TyApart], fun x => toC TyApart x.1⟩
def A_laws_toApart : List (List Nat × Ann) := []
def In_laws_toApart : List (List Nat × Nat) := []
noncomputable def cs_laws_toApart : List Ctr := [c_laws_toStringS]
noncomputable def F_laws_toApart (n : Nat) (a0 : DApart) : Option DApart := run Tryz.prog A_laws_toApart In_laws_toApart (conOf cs_laws_toApart) Tryz.f59 (Tryz.f59.body.getD .skip) (packT [TyApart]) n (argsV [TyApart] (a0, ()))
theorem F_laws_toApart_eq (n : Nat) (a0 : DApart) : F_laws_toApart n a0 =
    Option.bind (toC (.list .str) a0.1) fun (y1 : (List (List Int))) =>
    some (y1, a0.2) := by kernel_rfl
theorem mk_laws_toApart (hcs : ∀ x ∈ cs_laws_toApart, CtrOk Tryz.prog x) (h : ∀ (a0 : DApart) y, toC TyApart a0 = some y → ∃ n, F_laws_toApart n a0 = some y) : CtrOk Tryz.prog c_laws_toApart := by
  refine ctr_of_run (c := c_laws_toApart) (by kernel_rfl) (by kernel_rfl : Tryz.prog.funcs[59]? = some Tryz.f59) (code := Tryz.f59.body.getD .skip) (by kernel_rfl) (by kernel_rfl) (by kernel_rfl) (A := A_laws_toApart) (I := In_laws_toApart) hcs ?_
  rintro ⟨a0, u⟩ y hy
  exact h a0 y hy

theorem hcs_laws_toApart : ∀ x ∈ cs_laws_toApart, CtrOk Tryz.prog x := (conOf_cons ok_laws_toStringS conOf_nil)
theorem ok_laws_toApart : CtrOk Tryz.prog c_laws_toApart := mk_laws_toApart hcs_laws_toApart fun a0 y hy => by
  obtain ⟨hw, hs, rfl⟩ := toC_inv hy
  have hw2 : wfD (.list .str) y.1 ∧ wfD I64 y.2.1 ∧ wfD .bool y.2.2 := hw
  have hs2 : Ty.size (.list .str) y.1 + (Ty.size I64 y.2.1 + (Ty.size .bool y.2.2)) ≤ 1073741824 := hs
  refine ⟨0, ?_⟩
  rw [F_laws_toApart_eq]
  try (rw [toC_some hw2.1 (by omega)]; simp only [Option.bind_some])
  try rfl
/-! ## laws.toApartS (27) -/
noncomputable def c_laws_toApartS : Ctr := ⟨27, [(.list TyApart)], [(.list TyApart)], fun x => toC (.list TyApart) x.1⟩
def A_laws_toApartS : List (List Nat × Ann) := [([0, 3], [.keep 0 0, .keep 0 3, .keep 0 4, .rows 0 7 TyApart])]
def In_laws_toApartS : List (List Nat × Nat) := []
noncomputable def cs_laws_toApartS : List Ctr := [c_laws_toApart]
noncomputable def F_laws_toApartS (n : Nat) (a0 : (List DApart)) : Option (List DApart) := run Tryz.prog A_laws_toApartS In_laws_toApartS (conOf cs_laws_toApartS) Tryz.f27 (Tryz.f27.body.getD .skip) (packT [(.list TyApart)]) n (argsV [(.list TyApart)] (a0, ()))
noncomputable abbrev L_laws_toApartS_0_3 (n : Nat) (x1 : (List DApart)) (x2 : Int) (x3 : (List DApart)) : Option (List DApart) := lam Tryz.prog A_laws_toApartS In_laws_toApartS (conOf cs_laws_toApartS) Tryz.f27 (Tryz.f27.body.getD .skip) (packT [(.list TyApart)]) n [0, 3] [.d (.list TyApart) x1, .msl 0 7, .d I64 x2, .d (.list TyApart) x3]
theorem F_laws_toApartS_eq (n : Nat) (a0 : (List DApart)) : F_laws_toApartS n a0 =
    bif decide ((a0.length : Int) = (a0.length : Int)) && decide ((0 : Int) ≤ (a0.length : Int)) && decide ((a0.length : Int) * 40 ≤ room) && true then
      L_laws_toApartS_0_3 n a0 0 (List.replicate (Int.toNat (a0.length : Int)) ([], 0, false))
    else none := by kernel_rfl
theorem L_laws_toApartS_0_3_eq (n : Nat) (x1 : (List DApart)) (x2 : Int) (x3 : (List DApart)) : L_laws_toApartS_0_3 (n + 1) x1 x2 x3 =
    bif decide (x2 < (x1.length : Int)) then
      bif inB x2 x1.length then
        Option.bind (toC TyApart (rd x1 x2 (Ty.dflt TyApart))) fun (y1 : DApart) =>
        bif inB x2 x3.length then
          bif inB x2 x3.length && true && true && true && true then
            L_laws_toApartS_0_3 n x1 (IntKind.wrap .i64 (x2 + 1)) (x3.set (Int.toNat x2) y1)
          else none
        else none
      else none
    else
      some x3 := by kernel_rfl
theorem mk_laws_toApartS (hcs : ∀ x ∈ cs_laws_toApartS, CtrOk Tryz.prog x) (h : ∀ (a0 : (List DApart)) y, toC (.list TyApart) a0 = some y → ∃ n, F_laws_toApartS n a0 = some y) : CtrOk Tryz.prog c_laws_toApartS := by
  refine ctr_of_run (c := c_laws_toApartS) (by kernel_rfl) (by kernel_rfl : Tryz.prog.funcs[27]? = some Tryz.f27) (code := Tryz.f27.body.getD .skip) (by kernel_rfl) (by kernel_rfl) (by kernel_rfl) (A := A_laws_toApartS) (I := In_laws_toApartS) hcs ?_
  rintro ⟨a0, u⟩ y hy
  exact h a0 y hy

theorem hcs_laws_toApartS : ∀ x ∈ cs_laws_toApartS, CtrOk Tryz.prog x := (conOf_cons ok_laws_toApart conOf_nil)
theorem ok_laws_toApartS : CtrOk Tryz.prog c_laws_toApartS := mk_laws_toApartS hcs_laws_toApartS fun a0 y hy => by
  obtain ⟨n, hn⟩ := toS_ok (t := TyApart) (f := toC TyApart) (fun x h h2 => toC_some h h2) (by_ := 40) (by omega) (fun n xs i out => L_laws_toApartS_0_3_eq n xs i out) hy
  exact ⟨n, (F_laws_toApartS_eq n a0).trans hn⟩
/-! ## laws.toRoleSet (7) -/
noncomputable def c_laws_toRoleSet : Ctr := ⟨7, [TyRoleSet], [TyRoleSet], fun x => toC TyRoleSet x.1⟩
def A_laws_toRoleSet : List (List Nat × Ann) := []
def In_laws_toRoleSet : List (List Nat × Nat) := []
noncomputable def cs_laws_toRoleSet : List Ctr := [c_laws_toRoleS, c_laws_toApartS, c_laws_toStringS]
noncomputable def F_laws_toRoleSet (n : Nat) (a0 : DRoleSet) : Option DRoleSet := run Tryz.prog A_laws_toRoleSet In_laws_toRoleSet (conOf cs_laws_toRoleSet) Tryz.f7 (Tryz.f7.body.getD .skip) (packT [TyRoleSet]) n (argsV [TyRoleSet] (a0, ()))
theorem F_laws_toRoleSet_eq (n : Nat) (a0 : DRoleSet) : F_laws_toRoleSet n a0 =
    Option.bind (toC (.list TyRole) a0.1) fun (y1 : (List DRole)) =>
    Option.bind (toC (.list TyApart) a0.2.1) fun (y2 : (List DApart)) =>
    Option.bind (toC (.list .str) a0.2.2) fun (y3 : (List (List Int))) =>
    some (y1, y2, y3) := by kernel_rfl
theorem mk_laws_toRoleSet (hcs : ∀ x ∈ cs_laws_toRoleSet, CtrOk Tryz.prog x) (h : ∀ (a0 : DRoleSet) y, toC TyRoleSet a0 = some y → ∃ n, F_laws_toRoleSet n a0 = some y) : CtrOk Tryz.prog c_laws_toRoleSet := by
  refine ctr_of_run (c := c_laws_toRoleSet) (by kernel_rfl) (by kernel_rfl : Tryz.prog.funcs[7]? = some Tryz.f7) (code := Tryz.f7.body.getD .skip) (by kernel_rfl) (by kernel_rfl) (by kernel_rfl) (A := A_laws_toRoleSet) (I := In_laws_toRoleSet) hcs ?_
  rintro ⟨a0, u⟩ y hy
  exact h a0 y hy

theorem hcs_laws_toRoleSet : ∀ x ∈ cs_laws_toRoleSet, CtrOk Tryz.prog x := (conOf_cons ok_laws_toRoleS (conOf_cons ok_laws_toApartS (conOf_cons ok_laws_toStringS conOf_nil)))
theorem ok_laws_toRoleSet : CtrOk Tryz.prog c_laws_toRoleSet := mk_laws_toRoleSet hcs_laws_toRoleSet fun a0 y hy => by
  obtain ⟨hw, hs, rfl⟩ := toC_inv hy
  have hw2 : wfD (.list TyRole) y.1 ∧ wfD (.list TyApart) y.2.1 ∧ wfD (.list .str) y.2.2 := hw
  have hs2 : Ty.size (.list TyRole) y.1 + (Ty.size (.list TyApart) y.2.1 + (Ty.size (.list .str) y.2.2)) ≤ 1073741824 := hs
  refine ⟨0, ?_⟩
  rw [F_laws_toRoleSet_eq]
  try (rw [toC_some hw2.1 (by omega)]; simp only [Option.bind_some])
  try (rw [toC_some hw2.2.1 (by omega)]; simp only [Option.bind_some])
  try (rw [toC_some hw2.2.2 (by omega)]; simp only [Option.bind_some])
  try rfl
/-! ## laws.toStringS (28) -/
noncomputable def cd_laws_toStringS : Ctr := deepOf 28 [(.list .str)] [(.list .str)] fun x => toC (.list .str) x.1
def Ap_laws_toStringS : List (List Nat × Ann) := [([0, 3], [.keep 0 0, .drb 0 3 .str, .keep 0 4])]
def Inp_laws_toStringS : List (List Nat × Nat) := [([1002], 0)]
noncomputable def csp_laws_toStringS : List Ctr := []
noncomputable def Fp_laws_toStringS (n : Nat) (a0 : (List (List Int))) : Option (List (List Int)) := runE Tryz.prog noG Ap_laws_toStringS Inp_laws_toStringS (conOf csp_laws_toStringS) Tryz.f28 (Tryz.f28.body.getD .skip) (endP Tryz.prog Tryz.f28 [(.list .str)]) n (argsV [(.list .str)] (a0, ()))
noncomputable abbrev Lp_laws_toStringS_0_3 (n : Nat) (x1 : (List (List Int))) (x2 : (List (List Int))) (x3 : Int) : Option (List (List Int)) := lamE Tryz.prog noG Ap_laws_toStringS Inp_laws_toStringS (conOf csp_laws_toStringS) Tryz.f28 (Tryz.f28.body.getD .skip) (endP Tryz.prog Tryz.f28 [(.list .str)]) n [0, 3] [.d (.list .str) x1, .d (.list .str) x2, .d I64 x3]
theorem Fp_laws_toStringS_eq (n : Nat) (a0 : (List (List Int))) : Fp_laws_toStringS n a0 =
    bif decide ((a0.length : Int) = (a0.length : Int)) && decide ((0 : Int) ≤ (a0.length : Int)) && decide ((a0.length : Int) * 16 ≤ room) && true && true && true then
      Lp_laws_toStringS_0_3 n a0 (List.replicate (Int.toNat (a0.length : Int)) ([] : List Int)) 0
    else none := by kernel_rfl
theorem Lp_laws_toStringS_0_3_eq (n : Nat) (x1 : (List (List Int))) (x2 : (List (List Int))) (x3 : Int) : Lp_laws_toStringS_0_3 (n + 1) x1 x2 x3 =
    bif decide (x3 < (x1.length : Int)) then
      bif inB x3 x1.length then
        bif inB x3 x2.length then
          bif inB x3 x2.length && true && true && true && true && true && true then
            Lp_laws_toStringS_0_3 n x1 (x2.set (Int.toNat x3) (rd x1 x3 (Ty.dflt .str))) (IntKind.wrap .i64 (x3 + 1))
          else none
        else none
      else none
    else
      some x2 := by kernel_rfl
theorem hcsp_laws_toStringS : ∀ x ∈ csp_laws_toStringS, CtrOk Tryz.prog x := conOf_nil
theorem okd_laws_toStringS : CtrOk Tryz.prog cd_laws_toStringS := by
  refine ctr_of_deep (by kernel_rfl) (by kernel_rfl : Tryz.prog.funcs[28]? = some Tryz.f28) (code := Tryz.f28.body.getD .skip) (by kernel_rfl) (by kernel_rfl) (A := Ap_laws_toStringS) (I := Inp_laws_toStringS) hcsp_laws_toStringS ?_
  rintro ⟨a0, u⟩ y hy
  obtain ⟨n, hn⟩ := toD_ok (t := .str) (f := fun x => some x) (fun x _ _ => rfl) (L := fun n xs i out => Lp_laws_toStringS_0_3 n xs out i) (by_ := 16) (by omega) (fun n xs i out => Lp_laws_toStringS_0_3_eq n xs out i) hy
  exact ⟨n, (Fp_laws_toStringS_eq n a0).trans hn⟩

/-! ## laws.toRole (58) -/
noncomputable def cd_laws_toRole : Ctr := deepOf 58 [TyRole] [TyRole] fun x => toC TyRole x.1
def Ap_laws_toRole : List (List Nat × Ann) := []
def Inp_laws_toRole : List (List Nat × Nat) := [([3002], 2000028), ([4002], 2000028)]
noncomputable def csp_laws_toRole : List Ctr := [cd_laws_toStringS]
noncomputable def Fp_laws_toRole (n : Nat) (a0 : DRole) : Option DRole := runE Tryz.prog noG Ap_laws_toRole Inp_laws_toRole (conOf csp_laws_toRole) Tryz.f58 (Tryz.f58.body.getD .skip) (endP Tryz.prog Tryz.f58 [TyRole]) n (argsV [TyRole] (a0, ()))
theorem Fp_laws_toRole_eq (n : Nat) (a0 : DRole) : Fp_laws_toRole n a0 =
    Option.bind (toC (.list .str) a0.2.1) fun (y1 : (List (List Int))) =>
    Option.bind (toC (.list .str) a0.2.2) fun (y2 : (List (List Int))) =>
    some (a0.1, y1, y2) := by kernel_rfl
theorem hcsp_laws_toRole : ∀ x ∈ csp_laws_toRole, CtrOk Tryz.prog x := (conOf_cons okd_laws_toStringS conOf_nil)
theorem okd_laws_toRole : CtrOk Tryz.prog cd_laws_toRole := by
  refine ctr_of_deep (by kernel_rfl) (by kernel_rfl : Tryz.prog.funcs[58]? = some Tryz.f58) (code := Tryz.f58.body.getD .skip) (by kernel_rfl) (by kernel_rfl) (A := Ap_laws_toRole) (I := Inp_laws_toRole) hcsp_laws_toRole ?_
  rintro ⟨a0, u⟩ y hy
  obtain ⟨hw, hs, rfl⟩ := toC_inv hy
  have hw2 : wfD .str y.1 ∧ wfD (.list .str) y.2.1 ∧ wfD (.list .str) y.2.2 := hw
  have hs2 : Ty.size .str y.1 + (Ty.size (.list .str) y.2.1 + (Ty.size (.list .str) y.2.2)) ≤ 1073741824 := hs
  refine ⟨0, ?_⟩
  show Fp_laws_toRole 0 y = some y
  rw [Fp_laws_toRole_eq]
  try (rw [toC_some hw2.2.1 (by omega)]; simp only [Option.bind_some])
  try (rw [toC_some hw2.2.2 (by omega)]; simp only [Option.bind_some])
  try rfl

/-! ## laws.toRoleS (26) -/
noncomputable def cd_laws_toRoleS : Ctr := deepOf 26 [(.list TyRole)] [(.list TyRole)] fun x => toC (.list TyRole) x.1
def Ap_laws_toRoleS : List (List Nat × Ann) := [([0, 3], [.keep 0 0, .drb 0 3 TyRole, .keep 0 4])]
def Inp_laws_toRoleS : List (List Nat × Nat) := [([1002], 0), ([5006], 2000058)]
noncomputable def csp_laws_toRoleS : List Ctr := [cd_laws_toRole]
noncomputable def Fp_laws_toRoleS (n : Nat) (a0 : (List DRole)) : Option (List DRole) := runE Tryz.prog noG Ap_laws_toRoleS Inp_laws_toRoleS (conOf csp_laws_toRoleS) Tryz.f26 (Tryz.f26.body.getD .skip) (endP Tryz.prog Tryz.f26 [(.list TyRole)]) n (argsV [(.list TyRole)] (a0, ()))
noncomputable abbrev Lp_laws_toRoleS_0_3 (n : Nat) (x1 : (List DRole)) (x2 : (List DRole)) (x3 : Int) : Option (List DRole) := lamE Tryz.prog noG Ap_laws_toRoleS Inp_laws_toRoleS (conOf csp_laws_toRoleS) Tryz.f26 (Tryz.f26.body.getD .skip) (endP Tryz.prog Tryz.f26 [(.list TyRole)]) n [0, 3] [.d (.list TyRole) x1, .d (.list TyRole) x2, .d I64 x3]
theorem Fp_laws_toRoleS_eq (n : Nat) (a0 : (List DRole)) : Fp_laws_toRoleS n a0 =
    bif decide ((a0.length : Int) = (a0.length : Int)) && decide ((0 : Int) ≤ (a0.length : Int)) && decide ((a0.length : Int) * 64 ≤ room) && true && true && true then
      Lp_laws_toRoleS_0_3 n a0 (List.replicate (Int.toNat (a0.length : Int)) (([] : List Int), [], [])) 0
    else none := by kernel_rfl
theorem Lp_laws_toRoleS_0_3_eq (n : Nat) (x1 : (List DRole)) (x2 : (List DRole)) (x3 : Int) : Lp_laws_toRoleS_0_3 (n + 1) x1 x2 x3 =
    bif decide (x3 < (x1.length : Int)) then
      bif inB x3 x1.length then
        Option.bind (toC TyRole (rd x1 x3 (Ty.dflt TyRole))) fun (y1 : DRole) =>
        bif inB x3 x2.length then
          bif inB x3 x2.length && true && true && true && true && true && true then
            Lp_laws_toRoleS_0_3 n x1 (x2.set (Int.toNat x3) y1) (IntKind.wrap .i64 (x3 + 1))
          else none
        else none
      else none
    else
      some x2 := by kernel_rfl
theorem hcsp_laws_toRoleS : ∀ x ∈ csp_laws_toRoleS, CtrOk Tryz.prog x := (conOf_cons okd_laws_toRole conOf_nil)
theorem okd_laws_toRoleS : CtrOk Tryz.prog cd_laws_toRoleS := by
  refine ctr_of_deep (by kernel_rfl) (by kernel_rfl : Tryz.prog.funcs[26]? = some Tryz.f26) (code := Tryz.f26.body.getD .skip) (by kernel_rfl) (by kernel_rfl) (A := Ap_laws_toRoleS) (I := Inp_laws_toRoleS) hcsp_laws_toRoleS ?_
  rintro ⟨a0, u⟩ y hy
  obtain ⟨n, hn⟩ := toD_ok (t := TyRole) (f := toC TyRole) (fun x h h2 => toC_some h h2) (L := fun n xs i out => Lp_laws_toRoleS_0_3 n xs out i) (by_ := 64) (by omega) (fun n xs i out => Lp_laws_toRoleS_0_3_eq n xs out i) hy
  exact ⟨n, (Fp_laws_toRoleS_eq n a0).trans hn⟩

/-! ## laws.toApart (59) -/
noncomputable def cd_laws_toApart : Ctr := deepOf 59 [TyApart] [TyApart] fun x => toC TyApart x.1
def Ap_laws_toApart : List (List Nat × Ann) := []
def Inp_laws_toApart : List (List Nat × Nat) := [([2002], 2000028)]
noncomputable def csp_laws_toApart : List Ctr := [cd_laws_toStringS]
noncomputable def Fp_laws_toApart (n : Nat) (a0 : DApart) : Option DApart := runE Tryz.prog noG Ap_laws_toApart Inp_laws_toApart (conOf csp_laws_toApart) Tryz.f59 (Tryz.f59.body.getD .skip) (endP Tryz.prog Tryz.f59 [TyApart]) n (argsV [TyApart] (a0, ()))
theorem Fp_laws_toApart_eq (n : Nat) (a0 : DApart) : Fp_laws_toApart n a0 =
    Option.bind (toC (.list .str) a0.1) fun (y1 : (List (List Int))) =>
    some (y1, a0.2) := by kernel_rfl
theorem hcsp_laws_toApart : ∀ x ∈ csp_laws_toApart, CtrOk Tryz.prog x := (conOf_cons okd_laws_toStringS conOf_nil)
theorem okd_laws_toApart : CtrOk Tryz.prog cd_laws_toApart := by
  refine ctr_of_deep (by kernel_rfl) (by kernel_rfl : Tryz.prog.funcs[59]? = some Tryz.f59) (code := Tryz.f59.body.getD .skip) (by kernel_rfl) (by kernel_rfl) (A := Ap_laws_toApart) (I := Inp_laws_toApart) hcsp_laws_toApart ?_
  rintro ⟨a0, u⟩ y hy
  obtain ⟨hw, hs, rfl⟩ := toC_inv hy
  have hw2 : wfD (.list .str) y.1 ∧ wfD I64 y.2.1 ∧ wfD .bool y.2.2 := hw
  have hs2 : Ty.size (.list .str) y.1 + (Ty.size I64 y.2.1 + (Ty.size .bool y.2.2)) ≤ 1073741824 := hs
  refine ⟨0, ?_⟩
  show Fp_laws_toApart 0 y = some y
  rw [Fp_laws_toApart_eq]
  try (rw [toC_some hw2.1 (by omega)]; simp only [Option.bind_some])
  try rfl

/-! ## laws.toApartS (27) -/
noncomputable def cd_laws_toApartS : Ctr := deepOf 27 [(.list TyApart)] [(.list TyApart)] fun x => toC (.list TyApart) x.1
def Ap_laws_toApartS : List (List Nat × Ann) := [([0, 3], [.keep 0 0, .drb 0 3 TyApart, .keep 0 4])]
def Inp_laws_toApartS : List (List Nat × Nat) := [([1002], 0), ([5006], 2000059)]
noncomputable def csp_laws_toApartS : List Ctr := [cd_laws_toApart]
noncomputable def Fp_laws_toApartS (n : Nat) (a0 : (List DApart)) : Option (List DApart) := runE Tryz.prog noG Ap_laws_toApartS Inp_laws_toApartS (conOf csp_laws_toApartS) Tryz.f27 (Tryz.f27.body.getD .skip) (endP Tryz.prog Tryz.f27 [(.list TyApart)]) n (argsV [(.list TyApart)] (a0, ()))
noncomputable abbrev Lp_laws_toApartS_0_3 (n : Nat) (x1 : (List DApart)) (x2 : (List DApart)) (x3 : Int) : Option (List DApart) := lamE Tryz.prog noG Ap_laws_toApartS Inp_laws_toApartS (conOf csp_laws_toApartS) Tryz.f27 (Tryz.f27.body.getD .skip) (endP Tryz.prog Tryz.f27 [(.list TyApart)]) n [0, 3] [.d (.list TyApart) x1, .d (.list TyApart) x2, .d I64 x3]
theorem Fp_laws_toApartS_eq (n : Nat) (a0 : (List DApart)) : Fp_laws_toApartS n a0 =
    bif decide ((a0.length : Int) = (a0.length : Int)) && decide ((0 : Int) ≤ (a0.length : Int)) && decide ((a0.length : Int) * 40 ≤ room) && true && true && true then
      Lp_laws_toApartS_0_3 n a0 (List.replicate (Int.toNat (a0.length : Int)) ([], 0, false)) 0
    else none := by kernel_rfl
theorem Lp_laws_toApartS_0_3_eq (n : Nat) (x1 : (List DApart)) (x2 : (List DApart)) (x3 : Int) : Lp_laws_toApartS_0_3 (n + 1) x1 x2 x3 =
    bif decide (x3 < (x1.length : Int)) then
      bif inB x3 x1.length then
        Option.bind (toC TyApart (rd x1 x3 (Ty.dflt TyApart))) fun (y1 : DApart) =>
        bif inB x3 x2.length then
          bif inB x3 x2.length && true && true && true && true && true && true then
            Lp_laws_toApartS_0_3 n x1 (x2.set (Int.toNat x3) y1) (IntKind.wrap .i64 (x3 + 1))
          else none
        else none
      else none
    else
      some x2 := by kernel_rfl
theorem hcsp_laws_toApartS : ∀ x ∈ csp_laws_toApartS, CtrOk Tryz.prog x := (conOf_cons okd_laws_toApart conOf_nil)
theorem okd_laws_toApartS : CtrOk Tryz.prog cd_laws_toApartS := by
  refine ctr_of_deep (by kernel_rfl) (by kernel_rfl : Tryz.prog.funcs[27]? = some Tryz.f27) (code := Tryz.f27.body.getD .skip) (by kernel_rfl) (by kernel_rfl) (A := Ap_laws_toApartS) (I := Inp_laws_toApartS) hcsp_laws_toApartS ?_
  rintro ⟨a0, u⟩ y hy
  obtain ⟨n, hn⟩ := toD_ok (t := TyApart) (f := toC TyApart) (fun x h h2 => toC_some h h2) (L := fun n xs i out => Lp_laws_toApartS_0_3 n xs out i) (by_ := 40) (by omega) (fun n xs i out => Lp_laws_toApartS_0_3_eq n xs out i) hy
  exact ⟨n, (Fp_laws_toApartS_eq n a0).trans hn⟩

/-! ## laws.toRoleSet (7) -/
noncomputable def cd_laws_toRoleSet : Ctr := deepOf 7 [TyRoleSet] [TyRoleSet] fun x => toC TyRoleSet x.1
def Ap_laws_toRoleSet : List (List Nat × Ann) := []
def Inp_laws_toRoleSet : List (List Nat × Nat) := [([2002], 2000026), ([3002], 2000027), ([4002], 2000028)]
noncomputable def csp_laws_toRoleSet : List Ctr := [cd_laws_toRoleS, cd_laws_toApartS, cd_laws_toStringS]
noncomputable def Fp_laws_toRoleSet (n : Nat) (a0 : DRoleSet) : Option DRoleSet := runE Tryz.prog noG Ap_laws_toRoleSet Inp_laws_toRoleSet (conOf csp_laws_toRoleSet) Tryz.f7 (Tryz.f7.body.getD .skip) (endP Tryz.prog Tryz.f7 [TyRoleSet]) n (argsV [TyRoleSet] (a0, ()))
theorem Fp_laws_toRoleSet_eq (n : Nat) (a0 : DRoleSet) : Fp_laws_toRoleSet n a0 =
    Option.bind (toC (.list TyRole) a0.1) fun (y1 : (List DRole)) =>
    Option.bind (toC (.list TyApart) a0.2.1) fun (y2 : (List DApart)) =>
    Option.bind (toC (.list .str) a0.2.2) fun (y3 : (List (List Int))) =>
    some (y1, y2, y3) := by kernel_rfl
theorem hcsp_laws_toRoleSet : ∀ x ∈ csp_laws_toRoleSet, CtrOk Tryz.prog x := (conOf_cons okd_laws_toRoleS (conOf_cons okd_laws_toApartS (conOf_cons okd_laws_toStringS conOf_nil)))
theorem okd_laws_toRoleSet : CtrOk Tryz.prog cd_laws_toRoleSet := by
  refine ctr_of_deep (by kernel_rfl) (by kernel_rfl : Tryz.prog.funcs[7]? = some Tryz.f7) (code := Tryz.f7.body.getD .skip) (by kernel_rfl) (by kernel_rfl) (A := Ap_laws_toRoleSet) (I := Inp_laws_toRoleSet) hcsp_laws_toRoleSet ?_
  rintro ⟨a0, u⟩ y hy
  obtain ⟨hw, hs, rfl⟩ := toC_inv hy
  have hw2 : wfD (.list TyRole) y.1 ∧ wfD (.list TyApart) y.2.1 ∧ wfD (.list .str) y.2.2 := hw
  have hs2 : Ty.size (.list TyRole) y.1 + (Ty.size (.list TyApart) y.2.1 + (Ty.size (.list .str) y.2.2)) ≤ 1073741824 := hs
  refine ⟨0, ?_⟩
  show Fp_laws_toRoleSet 0 y = some y
  rw [Fp_laws_toRoleSet_eq]
  try (rw [toC_some hw2.1 (by omega)]; simp only [Option.bind_some])
  try (rw [toC_some hw2.2.1 (by omega)]; simp only [Option.bind_some])
  try (rw [toC_some hw2.2.2 (by omega)]; simp only [Option.bind_some])
  try rfl

/-! ## impl.Authorised (9) -/
noncomputable def co_impl_Authorised : Ctr := ownOf 9 [TyRoleSet, TyRoleState, .str, I64] .str fun x => P_impl_Authorised x.1 x.2.1 x.2.2.1 x.2.2.2.1
def Ao_impl_Authorised : List (List Nat × Ann) := []
def Ino_impl_Authorised : List (List Nat × Nat) := [([3006], 1000033)]
noncomputable def cso_impl_Authorised : List Ctr := [c_impl_ygoodRoleState, c_impl_RoleSet_yauthorised, co_impl_ysorted]
noncomputable def Fo_impl_Authorised (n : Nat) (a0 : DRoleSet) (a1 : DRoleState) (a2 : (List Int)) (a3 : Int) : Option (List (List Int)) := runE Tryz.prog noG Ao_impl_Authorised Ino_impl_Authorised (conOf cso_impl_Authorised) Tryz.f9 (Tryz.f9.body.getD .skip) (endO Tryz.prog Tryz.f9 .str) n (argsV [TyRoleSet, TyRoleState, .str, I64] (a0, a1, a2, a3, ()))
theorem Fo_impl_Authorised_eq (n : Nat) (a0 : DRoleSet) (a1 : DRoleState) (a2 : (List Int)) (a3 : Int) : Fo_impl_Authorised n a0 a1 a2 a3 =
    Option.bind (P_impl_ygoodRoleState a0 a1) fun (y1 : Bool) =>
    bif !(y1) then
      some ([])
    else
      bif decide (a3 < a1.2.2.2) then
        some ([])
      else
        Option.bind (P_impl_RoleSet_yauthorised a0 a1.2.1 a2 a3) fun (y2 : (List ((List Int) × Bool))) =>
        Option.bind (keysF (v := .bool) y2) fun (y3 : (List (List Int))) =>
        some y3 := by kernel_rfl
theorem So_impl_Authorised (a0 : DRoleSet) (a1 : DRoleState) (a2 : (List Int)) (a3 : Int) {r : (List (List Int))} (h : P_impl_Authorised a0 a1 a2 a3 = some r) : Ev (fun n => Fo_impl_Authorised n a0 a1 a2 a3) r := by
  rw [P_impl_Authorised] at h
  refine Ev.of_eq ?_ (fun n => Fo_impl_Authorised_eq n a0 a1 a2 a3)
  exact (Ev.ofBind h fun y1 h => (Ev.ofBif h (fun h => (Ev.ofSome h)) (fun h => (Ev.ofBif h (fun h => (Ev.ofSome h)) (fun h => (Ev.ofBind h fun y2 h => (Ev.ofBind h fun y3 h => (Ev.ofSome h))))))))
theorem hcso_impl_Authorised : ∀ x ∈ cso_impl_Authorised, CtrOk Tryz.prog x := (conOf_cons ok_impl_ygoodRoleState (conOf_cons ok_impl_RoleSet_yauthorised (conOf_cons oko_impl_ysorted conOf_nil)))
theorem oko_impl_Authorised : CtrOk Tryz.prog (co_impl_Authorised) := by
  refine ctr_of_own (by kernel_rfl) (by kernel_rfl : Tryz.prog.funcs[9]? = some Tryz.f9) (code := Tryz.f9.body.getD .skip) (by kernel_rfl) (by kernel_rfl) (A := Ao_impl_Authorised) (I := Ino_impl_Authorised) (hcso_impl_Authorised) ?_
  rintro ⟨a0, a1, a2, a3, u⟩ y hy
  exact (So_impl_Authorised a0 a1 a2 a3 hy).get

noncomputable def cd_impl_Authorised : Ctr := deepOf 9 [TyRoleSet, TyRoleState, .str, I64] [(.list .str)] fun x => P_impl_Authorised x.1 x.2.1 x.2.2.1 x.2.2.2.1
theorem okd_impl_Authorised : CtrOk Tryz.prog (cd_impl_Authorised) := deep_of_own (by kernel_rfl) (by kernel_rfl) oko_impl_Authorised

/-! ## laws.markText (45) -/
noncomputable def P_laws_markText_0_4 : Nat → Int → (List Int) → Option (List Int)
  | 0, _, _ => none
  | m + 1, x1, x2 =>
      bif decide ((0 : Int) < x1) then
        bif decide ((([IntKind.wrap .u8 (IntKind.wrap .i64 (48 + (Int.tmod x1 10)))] : List Int).length : Int) ≤ room) then
          bif decide ((([IntKind.wrap .u8 (IntKind.wrap .i64 (48 + (Int.tmod x1 10)))] : List Int).length : Int) + (x2.length : Int) ≤ room) then
            P_laws_markText_0_4 m (IntKind.wrap .i64 (Int.tdiv x1 10)) (([IntKind.wrap .u8 (IntKind.wrap .i64 (48 + (Int.tmod x1 10)))] : List Int) ++ x2)
          else none
        else none
      else
        bif decide ((([109] : List Int).length : Int) + (x2.length : Int) ≤ room) then
          some (([109] : List Int) ++ x2)
        else none
noncomputable def P_laws_markText (m : Nat) (a0 : Int) : Option (List Int) :=
  bif decide (a0 ≤ 0) then
    some ([109, 48] : List Int)
  else
    P_laws_markText_0_4 m a0 ([] : List Int)
noncomputable def E_laws_markText (a0 : Int) : Option (List Int) := evOpt fun m => P_laws_markText m a0
noncomputable def c_laws_markText : Ctr := ⟨45, [I64], [.str], fun x => E_laws_markText x.1⟩
def A_laws_markText : List (List Nat × Ann) := [([0, 4], [.keep 0 0, .keep 0 3])]
def In_laws_markText : List (List Nat × Nat) := []
noncomputable def cs_laws_markText : List Ctr := []
noncomputable def F_laws_markText (n : Nat) (a0 : Int) : Option (List Int) := run Tryz.prog A_laws_markText In_laws_markText (conOf cs_laws_markText) Tryz.f45 (Tryz.f45.body.getD .skip) (packT [.str]) n (argsV [I64] (a0, ()))
noncomputable abbrev L_laws_markText_0_4 (n : Nat) (x1 : Int) (x2 : (List Int)) : Option (List Int) := lam Tryz.prog A_laws_markText In_laws_markText (conOf cs_laws_markText) Tryz.f45 (Tryz.f45.body.getD .skip) (packT [.str]) n [0, 4] [.d I64 x1, .d .str x2]
theorem F_laws_markText_eq (n : Nat) (a0 : Int) : F_laws_markText n a0 =
    bif decide (a0 ≤ 0) then
      some ([109, 48] : List Int)
    else
      L_laws_markText_0_4 n a0 ([] : List Int) := by kernel_rfl
theorem L_laws_markText_0_4_eq (n : Nat) (x1 : Int) (x2 : (List Int)) : L_laws_markText_0_4 (n + 1) x1 x2 =
    bif decide ((0 : Int) < x1) then
      bif decide ((([IntKind.wrap .u8 (IntKind.wrap .i64 (48 + (Int.tmod x1 10)))] : List Int).length : Int) ≤ room) then
        bif decide ((([IntKind.wrap .u8 (IntKind.wrap .i64 (48 + (Int.tmod x1 10)))] : List Int).length : Int) + (x2.length : Int) ≤ room) then
          L_laws_markText_0_4 n (IntKind.wrap .i64 (Int.tdiv x1 10)) (([IntKind.wrap .u8 (IntKind.wrap .i64 (48 + (Int.tmod x1 10)))] : List Int) ++ x2)
        else none
      else none
    else
      bif decide ((([109] : List Int).length : Int) + (x2.length : Int) ≤ room) then
        some (([109] : List Int) ++ x2)
      else none := by kernel_rfl
theorem S_laws_markText_0_4 : ∀ (m : Nat) (x1 : Int) (x2 : (List Int)) (r : (List Int)), P_laws_markText_0_4 m x1 x2 = some r → Ev (fun n => L_laws_markText_0_4 n x1 x2) r := by
  intro m
  induction m with
  | zero => intro x1 x2 r h; rw [P_laws_markText_0_4] at h; exact Ev.ofNone h
  | succ m ih2 =>
    intro x1 x2 r h
    rw [P_laws_markText_0_4] at h
    refine Ev.step ?_ (fun n => L_laws_markText_0_4_eq n x1 x2)
    exact (Ev.ofBif h (fun h => (Ev.ofBif h (fun h => (Ev.ofBif h (fun h => (ih2 _ _ _ h)) (fun h => (Ev.ofNone h)))) (fun h => (Ev.ofNone h)))) (fun h => (Ev.ofBif h (fun h => (Ev.ofSome h)) (fun h => (Ev.ofNone h)))))
theorem S_laws_markText {m : Nat} (a0 : Int) {r : (List Int)} (h : P_laws_markText m a0 = some r) : Ev (fun n => F_laws_markText n a0) r := by
  rw [P_laws_markText] at h
  refine Ev.of_eq ?_ (fun n => F_laws_markText_eq n a0)
  exact (Ev.ofBif h (fun h => (Ev.ofSome h)) (fun h => (S_laws_markText_0_4 _ _ _ _ h)))
theorem hcs_laws_markText : ∀ x ∈ cs_laws_markText, CtrOk Tryz.prog x := conOf_nil
theorem ok_laws_markText : CtrOk Tryz.prog (c_laws_markText) := by
  refine ctr_of_run (c := c_laws_markText) (by kernel_rfl) (by kernel_rfl : Tryz.prog.funcs[45]? = some Tryz.f45) (code := Tryz.f45.body.getD .skip) (by kernel_rfl) (by kernel_rfl) (by kernel_rfl) (A := A_laws_markText) (I := In_laws_markText) (hcs_laws_markText) ?_
  rintro ⟨a0, u⟩ y hy
  exact let ⟨_, h⟩ := (evOpt_get hy).get; (S_laws_markText a0 h).get
theorem markText_l : ∀ (m n : Nat) (acc : List Int), n < m → acc.length + n ≤ 2000000000000 → P_laws_markText_0_4 m (n : Int) acc = some (109 :: (mdig m n ++ acc))
  | 0, n, acc, h, _ => by omega
  | m + 1, n, acc, h, hb => by
    rw [P_laws_markText_0_4]
    by_cases h0 : n = 0
    · subst h0
      rw [decide_eq_false (by omega)]
      simp only [cond_false]
      rw [decide_eq_true (by rw [room_eq]; simp only [List.length_singleton]; omega)]
      simp [mdig]
    · have e1 : Int.tmod (n : Int) 10 = ((n % 10 : Nat) : Int) := by rw [Int.tmod_eq_emod_of_nonneg (by omega)]; omega
      have e2 : Int.tdiv (n : Int) 10 = ((n / 10 : Nat) : Int) := by rw [Int.tdiv_eq_ediv_of_nonneg (by omega)]; omega
      have hd : n % 10 < 10 := Nat.mod_lt _ (by omega)
      rw [decide_eq_true (by omega), e1, e2, wrap64 (x := 48 + ((n % 10 : Nat) : Int)) (by omega), wrap64 (x := ((n / 10 : Nat) : Int)) (by omega), wrap_inK (show inK .u8 (48 + ((n % 10 : Nat) : Int)) = true by rw [inK_iff, min_u8, max_u8]; omega)]
      simp only [cond_true, List.length_singleton]
      rw [decide_eq_true (by rw [room_eq]; omega), decide_eq_true (by rw [room_eq]; omega)]
      simp only [cond_true]
      rw [markText_l m (n / 10) _ (by omega) (by simp; omega)]
      simp [mdig, h0]
theorem mdig_same : ∀ (m m' n : Nat), n < m → n < m' → mdig m n = mdig m' n
  | 0, _, _, h, _ => by omega
  | _, 0, _, _, h => by omega
  | m + 1, m' + 1, n, h, h' => by
    simp only [mdig]
    by_cases h0 : n = 0
    · simp [h0]
    · rw [if_neg h0, if_neg h0, mdig_same m m' (n / 10) (by omega) (by omega)]
theorem p_markText (k : Int) (h0 : 0 ≤ k) (h1 : k ≤ markTop) : E_laws_markText k = some (mtext k) := by
  refine evOpt_of ⟨k.toNat + 1, fun m hm => ?_⟩
  show P_laws_markText m k = some (mtext k)
  rw [P_laws_markText]
  unfold mtext
  by_cases h : k ≤ 0
  · rw [decide_eq_true h, if_pos h]; rfl
  · rw [decide_eq_false h, if_neg h]
    simp only [cond_false]
    have := markText_l m k.toNat [] (by omega) (by unfold markTop at h1; simp; omega)
    rw [Int.toNat_of_nonneg h0] at this
    rw [this, List.append_nil, mdig_same m (k.toNat + 1) k.toNat (by omega) (by omega)]
theorem text_laws_markText : TextOk Tryz.prog 45 := text_ok (by kernel_rfl) ok_laws_markText fun k h0 h1 => p_markText k h0 h1

/-! ## laws.markStringS (15) -/
theorem hot_laws_markStringS : HotOk Tryz.prog 15 (.list .str) := hot_list (tl := 24) (by kernel_rfl : Tryz.prog.funcs[15]? = some Tryz.f15) (c := Tryz.f15.body.getD .skip) (by kernel_rfl) (by kernel_rfl) (gt := (some 45)) (hs := []) (text_some text_laws_markText) hots_nil (by kernel_rfl)
noncomputable def ch_laws_markStringS : Ctr := hotOf 15 (.list .str) fun x => markC (.list .str) x.1 x.2.1
theorem okh_laws_markStringS : CtrOk Tryz.prog ch_laws_markStringS := hot_ctr (by kernel_rfl) (by kernel_rfl) hot_laws_markStringS

/-! ## laws.markRoleS (40) -/
theorem hot_laws_markRoleS : HotOk Tryz.prog 40 (.list TyRole) := hot_list (tl := 35) (by kernel_rfl : Tryz.prog.funcs[40]? = some Tryz.f40) (c := Tryz.f40.body.getD .skip) (by kernel_rfl) (by kernel_rfl) (gt := (some 45)) (hs := [(15, (.list .str))]) (text_some text_laws_markText) (hots_cons hot_laws_markStringS hots_nil) (by kernel_rfl)
noncomputable def ch_laws_markRoleS : Ctr := hotOf 40 (.list TyRole) fun x => markC (.list TyRole) x.1 x.2.1
theorem okh_laws_markRoleS : CtrOk Tryz.prog ch_laws_markRoleS := hot_ctr (by kernel_rfl) (by kernel_rfl) hot_laws_markRoleS

/-! ## laws.markApartS (41) -/
theorem hot_laws_markApartS : HotOk Tryz.prog 41 (.list TyApart) := hot_list (tl := 36) (by kernel_rfl : Tryz.prog.funcs[41]? = some Tryz.f41) (c := Tryz.f41.body.getD .skip) (by kernel_rfl) (by kernel_rfl) (gt := none) (hs := [(15, (.list .str))]) text_none (hots_cons hot_laws_markStringS hots_nil) (by kernel_rfl)
noncomputable def ch_laws_markApartS : Ctr := hotOf 41 (.list TyApart) fun x => markC (.list TyApart) x.1 x.2.1
theorem okh_laws_markApartS : CtrOk Tryz.prog ch_laws_markApartS := hot_ctr (by kernel_rfl) (by kernel_rfl) hot_laws_markApartS

/-! ## laws.markRoleSet (13) -/
theorem hot_laws_markRoleSet : HotOk Tryz.prog 13 TyRoleSet := hot_struct (by kernel_rfl : Tryz.prog.funcs[13]? = some Tryz.f13) (c := Tryz.f13.body.getD .skip) (by kernel_rfl) (by kernel_rfl) (gt := none) (hs := [(40, (.list TyRole)), (41, (.list TyApart)), (15, (.list .str))]) text_none (hots_cons hot_laws_markRoleS (hots_cons hot_laws_markApartS (hots_cons hot_laws_markStringS hots_nil))) (by kernel_rfl)
noncomputable def ch_laws_markRoleSet : Ctr := hotOf 13 TyRoleSet fun x => markC TyRoleSet x.1 x.2.1
theorem okh_laws_markRoleSet : CtrOk Tryz.prog ch_laws_markRoleSet := hot_ctr (by kernel_rfl) (by kernel_rfl) hot_laws_markRoleSet

/-! ## laws.toIntS (29) -/
noncomputable def c_laws_toIntS : Ctr := ⟨29, [(.list I64)], [(.list I64)], fun x => toC (.list I64) x.1⟩
def A_laws_toIntS : List (List Nat × Ann) := [([0, 3], [.keep 0 0, .keep 0 3, .keep 0 4, .rows 0 7 I64])]
def In_laws_toIntS : List (List Nat × Nat) := []
noncomputable def cs_laws_toIntS : List Ctr := []
noncomputable def F_laws_toIntS (n : Nat) (a0 : (List Int)) : Option (List Int) := run Tryz.prog A_laws_toIntS In_laws_toIntS (conOf cs_laws_toIntS) Tryz.f29 (Tryz.f29.body.getD .skip) (packT [(.list I64)]) n (argsV [(.list I64)] (a0, ()))
noncomputable abbrev L_laws_toIntS_0_3 (n : Nat) (x1 : (List Int)) (x2 : Int) (x3 : (List Int)) : Option (List Int) := lam Tryz.prog A_laws_toIntS In_laws_toIntS (conOf cs_laws_toIntS) Tryz.f29 (Tryz.f29.body.getD .skip) (packT [(.list I64)]) n [0, 3] [.d (.list I64) x1, .msl 0 7, .d I64 x2, .d (.list I64) x3]
theorem F_laws_toIntS_eq (n : Nat) (a0 : (List Int)) : F_laws_toIntS n a0 =
    bif decide ((a0.length : Int) = (a0.length : Int)) && decide ((0 : Int) ≤ (a0.length : Int)) && decide ((a0.length : Int) * 8 ≤ room) && true then
      L_laws_toIntS_0_3 n a0 0 (List.replicate (Int.toNat (a0.length : Int)) 0)
    else none := by kernel_rfl
theorem L_laws_toIntS_0_3_eq (n : Nat) (x1 : (List Int)) (x2 : Int) (x3 : (List Int)) : L_laws_toIntS_0_3 (n + 1) x1 x2 x3 =
    bif decide (x2 < (x1.length : Int)) then
      bif inB x2 x1.length then
        bif inB x2 x3.length then
          bif inB x2 x3.length && true && true && true && true then
            L_laws_toIntS_0_3 n x1 (IntKind.wrap .i64 (x2 + 1)) (x3.set (Int.toNat x2) (rd x1 x2 (Ty.dflt I64)))
          else none
        else none
      else none
    else
      some x3 := by kernel_rfl
theorem mk_laws_toIntS (hcs : ∀ x ∈ cs_laws_toIntS, CtrOk Tryz.prog x) (h : ∀ (a0 : (List Int)) y, toC (.list I64) a0 = some y → ∃ n, F_laws_toIntS n a0 = some y) : CtrOk Tryz.prog c_laws_toIntS := by
  refine ctr_of_run (c := c_laws_toIntS) (by kernel_rfl) (by kernel_rfl : Tryz.prog.funcs[29]? = some Tryz.f29) (code := Tryz.f29.body.getD .skip) (by kernel_rfl) (by kernel_rfl) (by kernel_rfl) (A := A_laws_toIntS) (I := In_laws_toIntS) hcs ?_
  rintro ⟨a0, u⟩ y hy
  exact h a0 y hy

theorem hcs_laws_toIntS : ∀ x ∈ cs_laws_toIntS, CtrOk Tryz.prog x := conOf_nil
theorem ok_laws_toIntS : CtrOk Tryz.prog c_laws_toIntS := mk_laws_toIntS hcs_laws_toIntS fun a0 y hy => by
  obtain ⟨n, hn⟩ := toS_ok (t := I64) (f := fun x => some x) (fun x _ _ => rfl) (by_ := 8) (by omega) (fun n xs i out => L_laws_toIntS_0_3_eq n xs i out) hy
  exact ⟨n, (F_laws_toIntS_eq n a0).trans hn⟩
/-! ## laws.toRoleGrant (60) -/
noncomputable def c_laws_toRoleGrant : Ctr := ⟨60, [TyRoleGrant], [TyRoleGrant], fun x => toC TyRoleGrant x.1⟩
def A_laws_toRoleGrant : List (List Nat × Ann) := []
def In_laws_toRoleGrant : List (List Nat × Nat) := []
noncomputable def cs_laws_toRoleGrant : List Ctr := []
noncomputable def F_laws_toRoleGrant (n : Nat) (a0 : DRoleGrant) : Option DRoleGrant := run Tryz.prog A_laws_toRoleGrant In_laws_toRoleGrant (conOf cs_laws_toRoleGrant) Tryz.f60 (Tryz.f60.body.getD .skip) (packT [TyRoleGrant]) n (argsV [TyRoleGrant] (a0, ()))
theorem F_laws_toRoleGrant_eq (n : Nat) (a0 : DRoleGrant) : F_laws_toRoleGrant n a0 =
    some a0 := by kernel_rfl
theorem mk_laws_toRoleGrant (hcs : ∀ x ∈ cs_laws_toRoleGrant, CtrOk Tryz.prog x) (h : ∀ (a0 : DRoleGrant) y, toC TyRoleGrant a0 = some y → ∃ n, F_laws_toRoleGrant n a0 = some y) : CtrOk Tryz.prog c_laws_toRoleGrant := by
  refine ctr_of_run (c := c_laws_toRoleGrant) (by kernel_rfl) (by kernel_rfl : Tryz.prog.funcs[60]? = some Tryz.f60) (code := Tryz.f60.body.getD .skip) (by kernel_rfl) (by kernel_rfl) (by kernel_rfl) (A := A_laws_toRoleGrant) (I := In_laws_toRoleGrant) hcs ?_
  rintro ⟨a0, u⟩ y hy
  exact h a0 y hy

theorem hcs_laws_toRoleGrant : ∀ x ∈ cs_laws_toRoleGrant, CtrOk Tryz.prog x := conOf_nil
theorem ok_laws_toRoleGrant : CtrOk Tryz.prog c_laws_toRoleGrant := mk_laws_toRoleGrant hcs_laws_toRoleGrant fun a0 y hy => by
  obtain ⟨hw, hs, rfl⟩ := toC_inv hy
  have hw2 : wfD .str y.1 ∧ wfD .str y.2.1 ∧ wfD .str y.2.2.1 ∧ wfD I64 y.2.2.2.1 ∧ wfD I64 y.2.2.2.2.1 ∧ wfD I64 y.2.2.2.2.2 := hw
  have hs2 : Ty.size .str y.1 + (Ty.size .str y.2.1 + (Ty.size .str y.2.2.1 + (Ty.size I64 y.2.2.2.1 + (Ty.size I64 y.2.2.2.2.1 + (Ty.size I64 y.2.2.2.2.2))))) ≤ 1073741824 := hs
  refine ⟨0, ?_⟩
  rw [F_laws_toRoleGrant_eq]
  try rfl
/-! ## laws.toRoleGrantS (30) -/
noncomputable def c_laws_toRoleGrantS : Ctr := ⟨30, [(.list TyRoleGrant)], [(.list TyRoleGrant)], fun x => toC (.list TyRoleGrant) x.1⟩
def A_laws_toRoleGrantS : List (List Nat × Ann) := [([0, 3], [.keep 0 0, .keep 0 3, .keep 0 4, .rows 0 7 TyRoleGrant])]
def In_laws_toRoleGrantS : List (List Nat × Nat) := []
noncomputable def cs_laws_toRoleGrantS : List Ctr := [c_laws_toRoleGrant]
noncomputable def F_laws_toRoleGrantS (n : Nat) (a0 : (List DRoleGrant)) : Option (List DRoleGrant) := run Tryz.prog A_laws_toRoleGrantS In_laws_toRoleGrantS (conOf cs_laws_toRoleGrantS) Tryz.f30 (Tryz.f30.body.getD .skip) (packT [(.list TyRoleGrant)]) n (argsV [(.list TyRoleGrant)] (a0, ()))
noncomputable abbrev L_laws_toRoleGrantS_0_3 (n : Nat) (x1 : (List DRoleGrant)) (x2 : Int) (x3 : (List DRoleGrant)) : Option (List DRoleGrant) := lam Tryz.prog A_laws_toRoleGrantS In_laws_toRoleGrantS (conOf cs_laws_toRoleGrantS) Tryz.f30 (Tryz.f30.body.getD .skip) (packT [(.list TyRoleGrant)]) n [0, 3] [.d (.list TyRoleGrant) x1, .msl 0 7, .d I64 x2, .d (.list TyRoleGrant) x3]
theorem F_laws_toRoleGrantS_eq (n : Nat) (a0 : (List DRoleGrant)) : F_laws_toRoleGrantS n a0 =
    bif decide ((a0.length : Int) = (a0.length : Int)) && decide ((0 : Int) ≤ (a0.length : Int)) && decide ((a0.length : Int) * 72 ≤ room) && true then
      L_laws_toRoleGrantS_0_3 n a0 0 (List.replicate (Int.toNat (a0.length : Int)) (([] : List Int), ([] : List Int), ([] : List Int), 0, 0, 0))
    else none := by kernel_rfl
theorem L_laws_toRoleGrantS_0_3_eq (n : Nat) (x1 : (List DRoleGrant)) (x2 : Int) (x3 : (List DRoleGrant)) : L_laws_toRoleGrantS_0_3 (n + 1) x1 x2 x3 =
    bif decide (x2 < (x1.length : Int)) then
      bif inB x2 x1.length then
        Option.bind (toC TyRoleGrant (rd x1 x2 (Ty.dflt TyRoleGrant))) fun (y1 : DRoleGrant) =>
        bif inB x2 x3.length then
          bif inB x2 x3.length && true && true && true && true then
            L_laws_toRoleGrantS_0_3 n x1 (IntKind.wrap .i64 (x2 + 1)) (x3.set (Int.toNat x2) y1)
          else none
        else none
      else none
    else
      some x3 := by kernel_rfl
theorem mk_laws_toRoleGrantS (hcs : ∀ x ∈ cs_laws_toRoleGrantS, CtrOk Tryz.prog x) (h : ∀ (a0 : (List DRoleGrant)) y, toC (.list TyRoleGrant) a0 = some y → ∃ n, F_laws_toRoleGrantS n a0 = some y) : CtrOk Tryz.prog c_laws_toRoleGrantS := by
  refine ctr_of_run (c := c_laws_toRoleGrantS) (by kernel_rfl) (by kernel_rfl : Tryz.prog.funcs[30]? = some Tryz.f30) (code := Tryz.f30.body.getD .skip) (by kernel_rfl) (by kernel_rfl) (by kernel_rfl) (A := A_laws_toRoleGrantS) (I := In_laws_toRoleGrantS) hcs ?_
  rintro ⟨a0, u⟩ y hy
  exact h a0 y hy

theorem hcs_laws_toRoleGrantS : ∀ x ∈ cs_laws_toRoleGrantS, CtrOk Tryz.prog x := (conOf_cons ok_laws_toRoleGrant conOf_nil)
theorem ok_laws_toRoleGrantS : CtrOk Tryz.prog c_laws_toRoleGrantS := mk_laws_toRoleGrantS hcs_laws_toRoleGrantS fun a0 y hy => by
  obtain ⟨n, hn⟩ := toS_ok (t := TyRoleGrant) (f := toC TyRoleGrant) (fun x h h2 => toC_some h h2) (by_ := 72) (by omega) (fun n xs i out => L_laws_toRoleGrantS_0_3_eq n xs i out) hy
  exact ⟨n, (F_laws_toRoleGrantS_eq n a0).trans hn⟩
/-! ## laws.toRoleSession (61) -/
noncomputable def c_laws_toRoleSession : Ctr := ⟨61, [TyRoleSession], [TyRoleSession], fun x => toC TyRoleSession x.1⟩
def A_laws_toRoleSession : List (List Nat × Ann) := []
def In_laws_toRoleSession : List (List Nat × Nat) := []
noncomputable def cs_laws_toRoleSession : List Ctr := [c_laws_toStringS, c_laws_toRoleGrantS]
noncomputable def F_laws_toRoleSession (n : Nat) (a0 : DRoleSession) : Option DRoleSession := run Tryz.prog A_laws_toRoleSession In_laws_toRoleSession (conOf cs_laws_toRoleSession) Tryz.f61 (Tryz.f61.body.getD .skip) (packT [TyRoleSession]) n (argsV [TyRoleSession] (a0, ()))
theorem F_laws_toRoleSession_eq (n : Nat) (a0 : DRoleSession) : F_laws_toRoleSession n a0 =
    Option.bind (toC (.list .str) a0.2.2.1) fun (y1 : (List (List Int))) =>
    Option.bind (toC (.list TyRoleGrant) a0.2.2.2.1) fun (y2 : (List DRoleGrant)) =>
    some (a0.1, a0.2.1, y1, y2, a0.2.2.2.2) := by kernel_rfl
theorem mk_laws_toRoleSession (hcs : ∀ x ∈ cs_laws_toRoleSession, CtrOk Tryz.prog x) (h : ∀ (a0 : DRoleSession) y, toC TyRoleSession a0 = some y → ∃ n, F_laws_toRoleSession n a0 = some y) : CtrOk Tryz.prog c_laws_toRoleSession := by
  refine ctr_of_run (c := c_laws_toRoleSession) (by kernel_rfl) (by kernel_rfl : Tryz.prog.funcs[61]? = some Tryz.f61) (code := Tryz.f61.body.getD .skip) (by kernel_rfl) (by kernel_rfl) (by kernel_rfl) (A := A_laws_toRoleSession) (I := In_laws_toRoleSession) hcs ?_
  rintro ⟨a0, u⟩ y hy
  exact h a0 y hy

theorem hcs_laws_toRoleSession : ∀ x ∈ cs_laws_toRoleSession, CtrOk Tryz.prog x := (conOf_cons ok_laws_toStringS (conOf_cons ok_laws_toRoleGrantS conOf_nil))
theorem ok_laws_toRoleSession : CtrOk Tryz.prog c_laws_toRoleSession := mk_laws_toRoleSession hcs_laws_toRoleSession fun a0 y hy => by
  obtain ⟨hw, hs, rfl⟩ := toC_inv hy
  have hw2 : wfD .str y.1 ∧ wfD .str y.2.1 ∧ wfD (.list .str) y.2.2.1 ∧ wfD (.list TyRoleGrant) y.2.2.2.1 ∧ wfD .bool y.2.2.2.2 := hw
  have hs2 : Ty.size .str y.1 + (Ty.size .str y.2.1 + (Ty.size (.list .str) y.2.2.1 + (Ty.size (.list TyRoleGrant) y.2.2.2.1 + (Ty.size .bool y.2.2.2.2)))) ≤ 1073741824 := hs
  refine ⟨0, ?_⟩
  rw [F_laws_toRoleSession_eq]
  try (rw [toC_some hw2.2.2.1 (by omega)]; simp only [Option.bind_some])
  try (rw [toC_some hw2.2.2.2.1 (by omega)]; simp only [Option.bind_some])
  try rfl
/-! ## laws.toRoleSessionS (31) -/
noncomputable def c_laws_toRoleSessionS : Ctr := ⟨31, [(.list TyRoleSession)], [(.list TyRoleSession)], fun x => toC (.list TyRoleSession) x.1⟩
def A_laws_toRoleSessionS : List (List Nat × Ann) := [([0, 3], [.keep 0 0, .keep 0 3, .keep 0 4, .rows 0 7 TyRoleSession])]
def In_laws_toRoleSessionS : List (List Nat × Nat) := []
noncomputable def cs_laws_toRoleSessionS : List Ctr := [c_laws_toRoleSession]
noncomputable def F_laws_toRoleSessionS (n : Nat) (a0 : (List DRoleSession)) : Option (List DRoleSession) := run Tryz.prog A_laws_toRoleSessionS In_laws_toRoleSessionS (conOf cs_laws_toRoleSessionS) Tryz.f31 (Tryz.f31.body.getD .skip) (packT [(.list TyRoleSession)]) n (argsV [(.list TyRoleSession)] (a0, ()))
noncomputable abbrev L_laws_toRoleSessionS_0_3 (n : Nat) (x1 : (List DRoleSession)) (x2 : Int) (x3 : (List DRoleSession)) : Option (List DRoleSession) := lam Tryz.prog A_laws_toRoleSessionS In_laws_toRoleSessionS (conOf cs_laws_toRoleSessionS) Tryz.f31 (Tryz.f31.body.getD .skip) (packT [(.list TyRoleSession)]) n [0, 3] [.d (.list TyRoleSession) x1, .msl 0 7, .d I64 x2, .d (.list TyRoleSession) x3]
theorem F_laws_toRoleSessionS_eq (n : Nat) (a0 : (List DRoleSession)) : F_laws_toRoleSessionS n a0 =
    bif decide ((a0.length : Int) = (a0.length : Int)) && decide ((0 : Int) ≤ (a0.length : Int)) && decide ((a0.length : Int) * 88 ≤ room) && true then
      L_laws_toRoleSessionS_0_3 n a0 0 (List.replicate (Int.toNat (a0.length : Int)) (([] : List Int), ([] : List Int), [], [], false))
    else none := by kernel_rfl
theorem L_laws_toRoleSessionS_0_3_eq (n : Nat) (x1 : (List DRoleSession)) (x2 : Int) (x3 : (List DRoleSession)) : L_laws_toRoleSessionS_0_3 (n + 1) x1 x2 x3 =
    bif decide (x2 < (x1.length : Int)) then
      bif inB x2 x1.length then
        Option.bind (toC TyRoleSession (rd x1 x2 (Ty.dflt TyRoleSession))) fun (y1 : DRoleSession) =>
        bif inB x2 x3.length then
          bif inB x2 x3.length && true && true && true && true then
            L_laws_toRoleSessionS_0_3 n x1 (IntKind.wrap .i64 (x2 + 1)) (x3.set (Int.toNat x2) y1)
          else none
        else none
      else none
    else
      some x3 := by kernel_rfl
theorem mk_laws_toRoleSessionS (hcs : ∀ x ∈ cs_laws_toRoleSessionS, CtrOk Tryz.prog x) (h : ∀ (a0 : (List DRoleSession)) y, toC (.list TyRoleSession) a0 = some y → ∃ n, F_laws_toRoleSessionS n a0 = some y) : CtrOk Tryz.prog c_laws_toRoleSessionS := by
  refine ctr_of_run (c := c_laws_toRoleSessionS) (by kernel_rfl) (by kernel_rfl : Tryz.prog.funcs[31]? = some Tryz.f31) (code := Tryz.f31.body.getD .skip) (by kernel_rfl) (by kernel_rfl) (by kernel_rfl) (A := A_laws_toRoleSessionS) (I := In_laws_toRoleSessionS) hcs ?_
  rintro ⟨a0, u⟩ y hy
  exact h a0 y hy

theorem hcs_laws_toRoleSessionS : ∀ x ∈ cs_laws_toRoleSessionS, CtrOk Tryz.prog x := (conOf_cons ok_laws_toRoleSession conOf_nil)
theorem ok_laws_toRoleSessionS : CtrOk Tryz.prog c_laws_toRoleSessionS := mk_laws_toRoleSessionS hcs_laws_toRoleSessionS fun a0 y hy => by
  obtain ⟨n, hn⟩ := toS_ok (t := TyRoleSession) (f := toC TyRoleSession) (fun x h h2 => toC_some h h2) (by_ := 88) (by omega) (fun n xs i out => L_laws_toRoleSessionS_0_3_eq n xs i out) hy
  exact ⟨n, (F_laws_toRoleSessionS_eq n a0).trans hn⟩
/-! ## laws.toRoleState (8) -/
noncomputable def c_laws_toRoleState : Ctr := ⟨8, [TyRoleState], [TyRoleState], fun x => toC TyRoleState x.1⟩
def A_laws_toRoleState : List (List Nat × Ann) := []
def In_laws_toRoleState : List (List Nat × Nat) := []
noncomputable def cs_laws_toRoleState : List Ctr := [c_laws_toIntS, c_laws_toRoleGrantS, c_laws_toRoleSessionS]
noncomputable def F_laws_toRoleState (n : Nat) (a0 : DRoleState) : Option DRoleState := run Tryz.prog A_laws_toRoleState In_laws_toRoleState (conOf cs_laws_toRoleState) Tryz.f8 (Tryz.f8.body.getD .skip) (packT [TyRoleState]) n (argsV [TyRoleState] (a0, ()))
theorem F_laws_toRoleState_eq (n : Nat) (a0 : DRoleState) : F_laws_toRoleState n a0 =
    Option.bind (toC (.list I64) a0.1) fun (y1 : (List Int)) =>
    Option.bind (toC (.list TyRoleGrant) a0.2.1) fun (y2 : (List DRoleGrant)) =>
    Option.bind (toC (.list TyRoleSession) a0.2.2.1) fun (y3 : (List DRoleSession)) =>
    some (y1, y2, y3, a0.2.2.2) := by kernel_rfl
theorem mk_laws_toRoleState (hcs : ∀ x ∈ cs_laws_toRoleState, CtrOk Tryz.prog x) (h : ∀ (a0 : DRoleState) y, toC TyRoleState a0 = some y → ∃ n, F_laws_toRoleState n a0 = some y) : CtrOk Tryz.prog c_laws_toRoleState := by
  refine ctr_of_run (c := c_laws_toRoleState) (by kernel_rfl) (by kernel_rfl : Tryz.prog.funcs[8]? = some Tryz.f8) (code := Tryz.f8.body.getD .skip) (by kernel_rfl) (by kernel_rfl) (by kernel_rfl) (A := A_laws_toRoleState) (I := In_laws_toRoleState) hcs ?_
  rintro ⟨a0, u⟩ y hy
  exact h a0 y hy

theorem hcs_laws_toRoleState : ∀ x ∈ cs_laws_toRoleState, CtrOk Tryz.prog x := (conOf_cons ok_laws_toIntS (conOf_cons ok_laws_toRoleGrantS (conOf_cons ok_laws_toRoleSessionS conOf_nil)))
theorem ok_laws_toRoleState : CtrOk Tryz.prog c_laws_toRoleState := mk_laws_toRoleState hcs_laws_toRoleState fun a0 y hy => by
  obtain ⟨hw, hs, rfl⟩ := toC_inv hy
  have hw2 : wfD (.list I64) y.1 ∧ wfD (.list TyRoleGrant) y.2.1 ∧ wfD (.list TyRoleSession) y.2.2.1 ∧ wfD I64 y.2.2.2 := hw
  have hs2 : Ty.size (.list I64) y.1 + (Ty.size (.list TyRoleGrant) y.2.1 + (Ty.size (.list TyRoleSession) y.2.2.1 + (Ty.size I64 y.2.2.2))) ≤ 1073741824 := hs
  refine ⟨0, ?_⟩
  rw [F_laws_toRoleState_eq]
  try (rw [toC_some hw2.1 (by omega)]; simp only [Option.bind_some])
  try (rw [toC_some hw2.2.1 (by omega)]; simp only [Option.bind_some])
  try (rw [toC_some hw2.2.2.1 (by omega)]; simp only [Option.bind_some])
  try rfl
/-! ## laws.toIntS (29) -/
noncomputable def cd_laws_toIntS : Ctr := deepOf 29 [(.list I64)] [(.list I64)] fun x => toC (.list I64) x.1
def Ap_laws_toIntS : List (List Nat × Ann) := [([0, 3], [.keep 0 0, .drb 0 3 I64, .keep 0 4])]
def Inp_laws_toIntS : List (List Nat × Nat) := [([1002], 0)]
noncomputable def csp_laws_toIntS : List Ctr := []
noncomputable def Fp_laws_toIntS (n : Nat) (a0 : (List Int)) : Option (List Int) := runE Tryz.prog noG Ap_laws_toIntS Inp_laws_toIntS (conOf csp_laws_toIntS) Tryz.f29 (Tryz.f29.body.getD .skip) (endP Tryz.prog Tryz.f29 [(.list I64)]) n (argsV [(.list I64)] (a0, ()))
noncomputable abbrev Lp_laws_toIntS_0_3 (n : Nat) (x1 : (List Int)) (x2 : (List Int)) (x3 : Int) : Option (List Int) := lamE Tryz.prog noG Ap_laws_toIntS Inp_laws_toIntS (conOf csp_laws_toIntS) Tryz.f29 (Tryz.f29.body.getD .skip) (endP Tryz.prog Tryz.f29 [(.list I64)]) n [0, 3] [.d (.list I64) x1, .d (.list I64) x2, .d I64 x3]
theorem Fp_laws_toIntS_eq (n : Nat) (a0 : (List Int)) : Fp_laws_toIntS n a0 =
    bif decide ((a0.length : Int) = (a0.length : Int)) && decide ((0 : Int) ≤ (a0.length : Int)) && decide ((a0.length : Int) * 8 ≤ room) && true && true && true then
      Lp_laws_toIntS_0_3 n a0 (List.replicate (Int.toNat (a0.length : Int)) 0) 0
    else none := by kernel_rfl
theorem Lp_laws_toIntS_0_3_eq (n : Nat) (x1 : (List Int)) (x2 : (List Int)) (x3 : Int) : Lp_laws_toIntS_0_3 (n + 1) x1 x2 x3 =
    bif decide (x3 < (x1.length : Int)) then
      bif inB x3 x1.length then
        bif inB x3 x2.length then
          bif inB x3 x2.length && true && true && true && true && true && true then
            Lp_laws_toIntS_0_3 n x1 (x2.set (Int.toNat x3) (rd x1 x3 (Ty.dflt I64))) (IntKind.wrap .i64 (x3 + 1))
          else none
        else none
      else none
    else
      some x2 := by kernel_rfl
theorem hcsp_laws_toIntS : ∀ x ∈ csp_laws_toIntS, CtrOk Tryz.prog x := conOf_nil
theorem okd_laws_toIntS : CtrOk Tryz.prog cd_laws_toIntS := by
  refine ctr_of_deep (by kernel_rfl) (by kernel_rfl : Tryz.prog.funcs[29]? = some Tryz.f29) (code := Tryz.f29.body.getD .skip) (by kernel_rfl) (by kernel_rfl) (A := Ap_laws_toIntS) (I := Inp_laws_toIntS) hcsp_laws_toIntS ?_
  rintro ⟨a0, u⟩ y hy
  obtain ⟨n, hn⟩ := toD_ok (t := I64) (f := fun x => some x) (fun x _ _ => rfl) (L := fun n xs i out => Lp_laws_toIntS_0_3 n xs out i) (by_ := 8) (by omega) (fun n xs i out => Lp_laws_toIntS_0_3_eq n xs out i) hy
  exact ⟨n, (Fp_laws_toIntS_eq n a0).trans hn⟩

/-! ## laws.toRoleGrantS (30) -/
noncomputable def cd_laws_toRoleGrantS : Ctr := deepOf 30 [(.list TyRoleGrant)] [(.list TyRoleGrant)] fun x => toC (.list TyRoleGrant) x.1
def Ap_laws_toRoleGrantS : List (List Nat × Ann) := [([0, 3], [.keep 0 0, .drb 0 3 TyRoleGrant, .keep 0 4])]
def Inp_laws_toRoleGrantS : List (List Nat × Nat) := [([1002], 0)]
noncomputable def csp_laws_toRoleGrantS : List Ctr := [c_laws_toRoleGrant]
noncomputable def Fp_laws_toRoleGrantS (n : Nat) (a0 : (List DRoleGrant)) : Option (List DRoleGrant) := runE Tryz.prog noG Ap_laws_toRoleGrantS Inp_laws_toRoleGrantS (conOf csp_laws_toRoleGrantS) Tryz.f30 (Tryz.f30.body.getD .skip) (endP Tryz.prog Tryz.f30 [(.list TyRoleGrant)]) n (argsV [(.list TyRoleGrant)] (a0, ()))
noncomputable abbrev Lp_laws_toRoleGrantS_0_3 (n : Nat) (x1 : (List DRoleGrant)) (x2 : (List DRoleGrant)) (x3 : Int) : Option (List DRoleGrant) := lamE Tryz.prog noG Ap_laws_toRoleGrantS Inp_laws_toRoleGrantS (conOf csp_laws_toRoleGrantS) Tryz.f30 (Tryz.f30.body.getD .skip) (endP Tryz.prog Tryz.f30 [(.list TyRoleGrant)]) n [0, 3] [.d (.list TyRoleGrant) x1, .d (.list TyRoleGrant) x2, .d I64 x3]
theorem Fp_laws_toRoleGrantS_eq (n : Nat) (a0 : (List DRoleGrant)) : Fp_laws_toRoleGrantS n a0 =
    bif decide ((a0.length : Int) = (a0.length : Int)) && decide ((0 : Int) ≤ (a0.length : Int)) && decide ((a0.length : Int) * 72 ≤ room) && true && true && true then
      Lp_laws_toRoleGrantS_0_3 n a0 (List.replicate (Int.toNat (a0.length : Int)) (([] : List Int), ([] : List Int), ([] : List Int), 0, 0, 0)) 0
    else none := by kernel_rfl
theorem Lp_laws_toRoleGrantS_0_3_eq (n : Nat) (x1 : (List DRoleGrant)) (x2 : (List DRoleGrant)) (x3 : Int) : Lp_laws_toRoleGrantS_0_3 (n + 1) x1 x2 x3 =
    bif decide (x3 < (x1.length : Int)) then
      bif inB x3 x1.length then
        Option.bind (toC TyRoleGrant (rd x1 x3 (Ty.dflt TyRoleGrant))) fun (y1 : DRoleGrant) =>
        bif inB x3 x2.length then
          bif inB x3 x2.length && true && true && true && true && true && true then
            Lp_laws_toRoleGrantS_0_3 n x1 (x2.set (Int.toNat x3) y1) (IntKind.wrap .i64 (x3 + 1))
          else none
        else none
      else none
    else
      some x2 := by kernel_rfl
theorem hcsp_laws_toRoleGrantS : ∀ x ∈ csp_laws_toRoleGrantS, CtrOk Tryz.prog x := (conOf_cons ok_laws_toRoleGrant conOf_nil)
theorem okd_laws_toRoleGrantS : CtrOk Tryz.prog cd_laws_toRoleGrantS := by
  refine ctr_of_deep (by kernel_rfl) (by kernel_rfl : Tryz.prog.funcs[30]? = some Tryz.f30) (code := Tryz.f30.body.getD .skip) (by kernel_rfl) (by kernel_rfl) (A := Ap_laws_toRoleGrantS) (I := Inp_laws_toRoleGrantS) hcsp_laws_toRoleGrantS ?_
  rintro ⟨a0, u⟩ y hy
  obtain ⟨n, hn⟩ := toD_ok (t := TyRoleGrant) (f := toC TyRoleGrant) (fun x h h2 => toC_some h h2) (L := fun n xs i out => Lp_laws_toRoleGrantS_0_3 n xs out i) (by_ := 72) (by omega) (fun n xs i out => Lp_laws_toRoleGrantS_0_3_eq n xs out i) hy
  exact ⟨n, (Fp_laws_toRoleGrantS_eq n a0).trans hn⟩

/-! ## laws.toRoleSession (61) -/
noncomputable def cd_laws_toRoleSession : Ctr := deepOf 61 [TyRoleSession] [TyRoleSession] fun x => toC TyRoleSession x.1
def Ap_laws_toRoleSession : List (List Nat × Ann) := []
def Inp_laws_toRoleSession : List (List Nat × Nat) := [([4002], 2000028), ([5002], 2000030)]
noncomputable def csp_laws_toRoleSession : List Ctr := [cd_laws_toStringS, cd_laws_toRoleGrantS]
noncomputable def Fp_laws_toRoleSession (n : Nat) (a0 : DRoleSession) : Option DRoleSession := runE Tryz.prog noG Ap_laws_toRoleSession Inp_laws_toRoleSession (conOf csp_laws_toRoleSession) Tryz.f61 (Tryz.f61.body.getD .skip) (endP Tryz.prog Tryz.f61 [TyRoleSession]) n (argsV [TyRoleSession] (a0, ()))
theorem Fp_laws_toRoleSession_eq (n : Nat) (a0 : DRoleSession) : Fp_laws_toRoleSession n a0 =
    Option.bind (toC (.list .str) a0.2.2.1) fun (y1 : (List (List Int))) =>
    Option.bind (toC (.list TyRoleGrant) a0.2.2.2.1) fun (y2 : (List DRoleGrant)) =>
    some (a0.1, a0.2.1, y1, y2, a0.2.2.2.2) := by kernel_rfl
theorem hcsp_laws_toRoleSession : ∀ x ∈ csp_laws_toRoleSession, CtrOk Tryz.prog x := (conOf_cons okd_laws_toStringS (conOf_cons okd_laws_toRoleGrantS conOf_nil))
theorem okd_laws_toRoleSession : CtrOk Tryz.prog cd_laws_toRoleSession := by
  refine ctr_of_deep (by kernel_rfl) (by kernel_rfl : Tryz.prog.funcs[61]? = some Tryz.f61) (code := Tryz.f61.body.getD .skip) (by kernel_rfl) (by kernel_rfl) (A := Ap_laws_toRoleSession) (I := Inp_laws_toRoleSession) hcsp_laws_toRoleSession ?_
  rintro ⟨a0, u⟩ y hy
  obtain ⟨hw, hs, rfl⟩ := toC_inv hy
  have hw2 : wfD .str y.1 ∧ wfD .str y.2.1 ∧ wfD (.list .str) y.2.2.1 ∧ wfD (.list TyRoleGrant) y.2.2.2.1 ∧ wfD .bool y.2.2.2.2 := hw
  have hs2 : Ty.size .str y.1 + (Ty.size .str y.2.1 + (Ty.size (.list .str) y.2.2.1 + (Ty.size (.list TyRoleGrant) y.2.2.2.1 + (Ty.size .bool y.2.2.2.2)))) ≤ 1073741824 := hs
  refine ⟨0, ?_⟩
  show Fp_laws_toRoleSession 0 y = some y
  rw [Fp_laws_toRoleSession_eq]
  try (rw [toC_some hw2.2.2.1 (by omega)]; simp only [Option.bind_some])
  try (rw [toC_some hw2.2.2.2.1 (by omega)]; simp only [Option.bind_some])
  try rfl

/-! ## laws.toRoleSessionS (31) -/
noncomputable def cd_laws_toRoleSessionS : Ctr := deepOf 31 [(.list TyRoleSession)] [(.list TyRoleSession)] fun x => toC (.list TyRoleSession) x.1
def Ap_laws_toRoleSessionS : List (List Nat × Ann) := [([0, 3], [.keep 0 0, .drb 0 3 TyRoleSession, .keep 0 4])]
def Inp_laws_toRoleSessionS : List (List Nat × Nat) := [([1002], 0), ([5006], 2000061)]
noncomputable def csp_laws_toRoleSessionS : List Ctr := [cd_laws_toRoleSession]
noncomputable def Fp_laws_toRoleSessionS (n : Nat) (a0 : (List DRoleSession)) : Option (List DRoleSession) := runE Tryz.prog noG Ap_laws_toRoleSessionS Inp_laws_toRoleSessionS (conOf csp_laws_toRoleSessionS) Tryz.f31 (Tryz.f31.body.getD .skip) (endP Tryz.prog Tryz.f31 [(.list TyRoleSession)]) n (argsV [(.list TyRoleSession)] (a0, ()))
noncomputable abbrev Lp_laws_toRoleSessionS_0_3 (n : Nat) (x1 : (List DRoleSession)) (x2 : (List DRoleSession)) (x3 : Int) : Option (List DRoleSession) := lamE Tryz.prog noG Ap_laws_toRoleSessionS Inp_laws_toRoleSessionS (conOf csp_laws_toRoleSessionS) Tryz.f31 (Tryz.f31.body.getD .skip) (endP Tryz.prog Tryz.f31 [(.list TyRoleSession)]) n [0, 3] [.d (.list TyRoleSession) x1, .d (.list TyRoleSession) x2, .d I64 x3]
theorem Fp_laws_toRoleSessionS_eq (n : Nat) (a0 : (List DRoleSession)) : Fp_laws_toRoleSessionS n a0 =
    bif decide ((a0.length : Int) = (a0.length : Int)) && decide ((0 : Int) ≤ (a0.length : Int)) && decide ((a0.length : Int) * 88 ≤ room) && true && true && true then
      Lp_laws_toRoleSessionS_0_3 n a0 (List.replicate (Int.toNat (a0.length : Int)) (([] : List Int), ([] : List Int), [], [], false)) 0
    else none := by kernel_rfl
theorem Lp_laws_toRoleSessionS_0_3_eq (n : Nat) (x1 : (List DRoleSession)) (x2 : (List DRoleSession)) (x3 : Int) : Lp_laws_toRoleSessionS_0_3 (n + 1) x1 x2 x3 =
    bif decide (x3 < (x1.length : Int)) then
      bif inB x3 x1.length then
        Option.bind (toC TyRoleSession (rd x1 x3 (Ty.dflt TyRoleSession))) fun (y1 : DRoleSession) =>
        bif inB x3 x2.length then
          bif inB x3 x2.length && true && true && true && true && true && true then
            Lp_laws_toRoleSessionS_0_3 n x1 (x2.set (Int.toNat x3) y1) (IntKind.wrap .i64 (x3 + 1))
          else none
        else none
      else none
    else
      some x2 := by kernel_rfl
theorem hcsp_laws_toRoleSessionS : ∀ x ∈ csp_laws_toRoleSessionS, CtrOk Tryz.prog x := (conOf_cons okd_laws_toRoleSession conOf_nil)
theorem okd_laws_toRoleSessionS : CtrOk Tryz.prog cd_laws_toRoleSessionS := by
  refine ctr_of_deep (by kernel_rfl) (by kernel_rfl : Tryz.prog.funcs[31]? = some Tryz.f31) (code := Tryz.f31.body.getD .skip) (by kernel_rfl) (by kernel_rfl) (A := Ap_laws_toRoleSessionS) (I := Inp_laws_toRoleSessionS) hcsp_laws_toRoleSessionS ?_
  rintro ⟨a0, u⟩ y hy
  obtain ⟨n, hn⟩ := toD_ok (t := TyRoleSession) (f := toC TyRoleSession) (fun x h h2 => toC_some h h2) (L := fun n xs i out => Lp_laws_toRoleSessionS_0_3 n xs out i) (by_ := 88) (by omega) (fun n xs i out => Lp_laws_toRoleSessionS_0_3_eq n xs out i) hy
  exact ⟨n, (Fp_laws_toRoleSessionS_eq n a0).trans hn⟩

/-! ## laws.toRoleState (8) -/
noncomputable def cd_laws_toRoleState : Ctr := deepOf 8 [TyRoleState] [TyRoleState] fun x => toC TyRoleState x.1
def Ap_laws_toRoleState : List (List Nat × Ann) := []
def Inp_laws_toRoleState : List (List Nat × Nat) := [([2002], 2000029), ([3002], 2000030), ([4002], 2000031)]
noncomputable def csp_laws_toRoleState : List Ctr := [cd_laws_toIntS, cd_laws_toRoleGrantS, cd_laws_toRoleSessionS]
noncomputable def Fp_laws_toRoleState (n : Nat) (a0 : DRoleState) : Option DRoleState := runE Tryz.prog noG Ap_laws_toRoleState Inp_laws_toRoleState (conOf csp_laws_toRoleState) Tryz.f8 (Tryz.f8.body.getD .skip) (endP Tryz.prog Tryz.f8 [TyRoleState]) n (argsV [TyRoleState] (a0, ()))
theorem Fp_laws_toRoleState_eq (n : Nat) (a0 : DRoleState) : Fp_laws_toRoleState n a0 =
    Option.bind (toC (.list I64) a0.1) fun (y1 : (List Int)) =>
    Option.bind (toC (.list TyRoleGrant) a0.2.1) fun (y2 : (List DRoleGrant)) =>
    Option.bind (toC (.list TyRoleSession) a0.2.2.1) fun (y3 : (List DRoleSession)) =>
    some (y1, y2, y3, a0.2.2.2) := by kernel_rfl
theorem hcsp_laws_toRoleState : ∀ x ∈ csp_laws_toRoleState, CtrOk Tryz.prog x := (conOf_cons okd_laws_toIntS (conOf_cons okd_laws_toRoleGrantS (conOf_cons okd_laws_toRoleSessionS conOf_nil)))
theorem okd_laws_toRoleState : CtrOk Tryz.prog cd_laws_toRoleState := by
  refine ctr_of_deep (by kernel_rfl) (by kernel_rfl : Tryz.prog.funcs[8]? = some Tryz.f8) (code := Tryz.f8.body.getD .skip) (by kernel_rfl) (by kernel_rfl) (A := Ap_laws_toRoleState) (I := Inp_laws_toRoleState) hcsp_laws_toRoleState ?_
  rintro ⟨a0, u⟩ y hy
  obtain ⟨hw, hs, rfl⟩ := toC_inv hy
  have hw2 : wfD (.list I64) y.1 ∧ wfD (.list TyRoleGrant) y.2.1 ∧ wfD (.list TyRoleSession) y.2.2.1 ∧ wfD I64 y.2.2.2 := hw
  have hs2 : Ty.size (.list I64) y.1 + (Ty.size (.list TyRoleGrant) y.2.1 + (Ty.size (.list TyRoleSession) y.2.2.1 + (Ty.size I64 y.2.2.2))) ≤ 1073741824 := hs
  refine ⟨0, ?_⟩
  show Fp_laws_toRoleState 0 y = some y
  rw [Fp_laws_toRoleState_eq]
  try (rw [toC_some hw2.1 (by omega)]; simp only [Option.bind_some])
  try (rw [toC_some hw2.2.1 (by omega)]; simp only [Option.bind_some])
  try (rw [toC_some hw2.2.2.1 (by omega)]; simp only [Option.bind_some])
  try rfl

/-! ## laws.markIntS (42) -/
theorem hot_laws_markIntS : HotOk Tryz.prog 42 (.list I64) := hot_list (tl := 27) (by kernel_rfl : Tryz.prog.funcs[42]? = some Tryz.f42) (c := Tryz.f42.body.getD .skip) (by kernel_rfl) (by kernel_rfl) (gt := none) (hs := []) text_none hots_nil (by kernel_rfl)
noncomputable def ch_laws_markIntS : Ctr := hotOf 42 (.list I64) fun x => markC (.list I64) x.1 x.2.1
theorem okh_laws_markIntS : CtrOk Tryz.prog ch_laws_markIntS := hot_ctr (by kernel_rfl) (by kernel_rfl) hot_laws_markIntS

/-! ## laws.markRoleGrantS (43) -/
theorem hot_laws_markRoleGrantS : HotOk Tryz.prog 43 (.list TyRoleGrant) := hot_list (tl := 40) (by kernel_rfl : Tryz.prog.funcs[43]? = some Tryz.f43) (c := Tryz.f43.body.getD .skip) (by kernel_rfl) (by kernel_rfl) (gt := (some 45)) (hs := []) (text_some text_laws_markText) hots_nil (by kernel_rfl)
noncomputable def ch_laws_markRoleGrantS : Ctr := hotOf 43 (.list TyRoleGrant) fun x => markC (.list TyRoleGrant) x.1 x.2.1
theorem okh_laws_markRoleGrantS : CtrOk Tryz.prog ch_laws_markRoleGrantS := hot_ctr (by kernel_rfl) (by kernel_rfl) hot_laws_markRoleGrantS

end Go.Ab
