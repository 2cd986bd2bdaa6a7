/- generated -/
import Derived.Test.YtjlabbgoonebhaaAb31
import Derived.Test.YtjlabbgoonebhaaProg
import Derived.KernelRfl
namespace Go.Ab
open Go.Proofs
set_option maxRecDepth 20000
abbrev I64 : Ty := .int .i64
abbrev U8 : Ty := .int .u8
abbrev TyboundsError : Ty := (.pair I64 (.pair I64 (.pair .bool U8)))
abbrev DboundsError : Type := (Int × (Int × (Bool × Int)))
abbrev TyerrorAddressString : Ty := (.pair .str (.int .u64))
abbrev DerrorAddressString : Type := ((List Int) × Int)
abbrev TyTry : Ty := (.pair I64 .bool)
abbrev DTry : Type := (Int × Bool)
abbrev TyThrottle : Ty := (.pair I64 (.pair I64 I64))
abbrev DThrottle : Type := (Int × (Int × Int))
/-! ## spec.l15Lesser (28) -/
noncomputable def T_spec_l15Lesser (a0 : Int) (a1 : Int) : Int :=
  bif decide (a0 < a1) then
    a0
  else
    a1
noncomputable def c_spec_l15Lesser : Ctr := ⟨28, [I64, I64], [I64], fun x => some (T_spec_l15Lesser x.1 x.2.1)⟩
def A_spec_l15Lesser : List (List Nat × Ann) := []
def In_spec_l15Lesser : List (List Nat × Nat) := []
noncomputable def cs_spec_l15Lesser : List Ctr := []
noncomputable def F_spec_l15Lesser (n : Nat) (a0 : Int) (a1 : Int) : Option Int := run Try.prog A_spec_l15Lesser In_spec_l15Lesser (conOf cs_spec_l15Lesser) Try.f28 (Try.f28.body.getD .skip) (packT [I64]) n (argsV [I64, I64] (a0, a1, ()))
theorem F_spec_l15Lesser_eq (n : Nat) (a0 : Int) (a1 : Int) : F_spec_l15Lesser n a0 a1 =
    bif decide (a0 < a1) then
      some a0
    else
      some a1 := by kernel_rfl
theorem S_spec_l15Lesser (n : Nat) (a0 : Int) (a1 : Int) : F_spec_l15Lesser n a0 a1 = some (T_spec_l15Lesser a0 a1) := (F_spec_l15Lesser_eq n a0 a1).trans (cond_some rfl rfl)
theorem hcs_spec_l15Lesser : ∀ x ∈ cs_spec_l15Lesser, CtrOk Try.prog x := conOf_nil
theorem ok_spec_l15Lesser : CtrOk Try.prog (c_spec_l15Lesser) := by
  refine ctr_of_run (c := c_spec_l15Lesser) (by kernel_rfl) (by kernel_rfl : Try.prog.funcs[28]? = some Try.f28) (code := Try.f28.body.getD .skip) (by kernel_rfl) (by kernel_rfl) (by kernel_rfl) (A := A_spec_l15Lesser) (I := In_spec_l15Lesser) (hcs_spec_l15Lesser) ?_
  rintro ⟨a0, a1, u⟩ y hy
  exact ⟨0, (S_spec_l15Lesser 0 a0 a1).trans hy⟩

/-! ## spec.l1Pow2 (29) -/
noncomputable def P_spec_l1Pow2_0_3 (x1 : Int) : Nat → Int → Int → Option Int
  | 0, _, _ => none
  | m + 1, x2, x3 =>
      bif decide (x3 < x1) then
        P_spec_l1Pow2_0_3 x1 m (IntKind.wrap .i64 (x2 * 2)) (IntKind.wrap .i64 (x3 + 1))
      else
        some x2
noncomputable def P_spec_l1Pow2 (m : Nat) (a0 : Int) : Option Int :=
  P_spec_l1Pow2_0_3 a0 m 1 0
noncomputable def E_spec_l1Pow2 (a0 : Int) : Option Int := evOpt fun m => P_spec_l1Pow2 m a0
noncomputable def c_spec_l1Pow2 : Ctr := ⟨29, [I64], [I64], fun x => E_spec_l1Pow2 x.1⟩
def A_spec_l1Pow2 : List (List Nat × Ann) := [([0, 3], [.keep 0 0, .keep 0 3, .keep 0 4])]
def In_spec_l1Pow2 : List (List Nat × Nat) := []
noncomputable def cs_spec_l1Pow2 : List Ctr := []
noncomputable def F_spec_l1Pow2 (n : Nat) (a0 : Int) : Option Int := run Try.prog A_spec_l1Pow2 In_spec_l1Pow2 (conOf cs_spec_l1Pow2) Try.f29 (Try.f29.body.getD .skip) (packT [I64]) n (argsV [I64] (a0, ()))
noncomputable abbrev L_spec_l1Pow2_0_3 (n : Nat) (x1 : Int) (x2 : Int) (x3 : Int) : Option Int := lam Try.prog A_spec_l1Pow2 In_spec_l1Pow2 (conOf cs_spec_l1Pow2) Try.f29 (Try.f29.body.getD .skip) (packT [I64]) n [0, 3] [.d I64 x1, .d I64 x2, .d I64 x3]
theorem F_spec_l1Pow2_eq (n : Nat) (a0 : Int) : F_spec_l1Pow2 n a0 =
    L_spec_l1Pow2_0_3 n a0 1 0 := by kernel_rfl
theorem L_spec_l1Pow2_0_3_eq (n : Nat) (x1 : Int) (x2 : Int) (x3 : Int) : L_spec_l1Pow2_0_3 (n + 1) x1 x2 x3 =
    bif decide (x3 < x1) then
      L_spec_l1Pow2_0_3 n x1 (IntKind.wrap .i64 (x2 * 2)) (IntKind.wrap .i64 (x3 + 1))
    else
      some x2 := by kernel_rfl
theorem S_spec_l1Pow2_0_3 {x1 : Int} : ∀ (m : Nat) (x2 : Int) (x3 : Int) (r : Int), P_spec_l1Pow2_0_3 x1 m x2 x3 = some r → Ev (fun n => L_spec_l1Pow2_0_3 n x1 x2 x3) r := by
  intro m
  induction m with
  | zero => intro x2 x3 r h; rw [P_spec_l1Pow2_0_3] at h; exact Ev.ofNone h
  | succ m ih2 =>
    intro x2 x3 r h
    rw [P_spec_l1Pow2_0_3] at h
    refine Ev.step ?_ (fun n => L_spec_l1Pow2_0_3_eq n x1 x2 x3)
    exact (Ev.ofBif h (fun h => (ih2 _ _ _ h)) (fun h => (Ev.ofSome h)))
theorem S_spec_l1Pow2 {m : Nat} (a0 : Int) {r : Int} (h : P_spec_l1Pow2 m a0 = some r) : Ev (fun n => F_spec_l1Pow2 n a0) r := by
  rw [P_spec_l1Pow2] at h
  refine Ev.of_eq ?_ (fun n => F_spec_l1Pow2_eq n a0)
  exact (S_spec_l1Pow2_0_3 _ _ _ _ h)
theorem hcs_spec_l1Pow2 : ∀ x ∈ cs_spec_l1Pow2, CtrOk Try.prog x := conOf_nil
theorem ok_spec_l1Pow2 : CtrOk Try.prog (c_spec_l1Pow2) := by
  refine ctr_of_run (c := c_spec_l1Pow2) (by kernel_rfl) (by kernel_rfl : Try.prog.funcs[29]? = some Try.f29) (code := Try.f29.body.getD .skip) (by kernel_rfl) (by kernel_rfl) (by kernel_rfl) (A := A_spec_l1Pow2) (I := In_spec_l1Pow2) (hcs_spec_l1Pow2) ?_
  rintro ⟨a0, u⟩ y hy
  exact let ⟨_, h⟩ := (evOpt_get hy).get; (S_spec_l1Pow2 a0 h).get

/-! ## spec.TryOnce (22) -/
noncomputable def P_spec_TryOnce_1_3 (x1 : Int) (x2 : Bool) (x3 : DThrottle) : Option (DThrottle × Int) :=
  bif decide (x1 < x3.2.1) then
    some (x3, 2)
  else
    bif x2 then
      some ((0, 0, x1), 0)
    else
      bif decide ((3 : Int) ≤ T_spec_l15Lesser (IntKind.wrap .i64 (x3.1 + 1)) 1000000) then
        Option.bind (E_spec_l1Pow2 (T_spec_l15Lesser (IntKind.wrap .i64 ((T_spec_l15Lesser (IntKind.wrap .i64 (x3.1 + 1)) 1000000) - 3)) 20)) fun (y1 : Int) =>
        some ((T_spec_l15Lesser (IntKind.wrap .i64 (x3.1 + 1)) 1000000, IntKind.wrap .i64 (x1 + (T_spec_l15Lesser 3600 (IntKind.wrap .i64 (10 * y1)))), x1), 1)
      else
        some ((T_spec_l15Lesser (IntKind.wrap .i64 (x3.1 + 1)) 1000000, 0, x1), 1)
noncomputable def P_spec_TryOnce (a0 : DThrottle) (a1 : Int) (a2 : Bool) : Option (DThrottle × Int) :=
  bif decide (a0.1 < 0) then
    some ((0, 0, 0), (-1))
  else
    bif decide ((1000000 : Int) < a0.1) then
      some ((0, 0, 0), (-1))
    else
      bif decide (a0.2.1 < 0) then
        some ((0, 0, 0), (-1))
      else
        bif decide ((100000003600 : Int) < a0.2.1) then
          some ((0, 0, 0), (-1))
        else
          bif decide (a0.2.2 < 0) then
            some ((0, 0, 0), (-1))
          else
            bif decide ((100000003600 : Int) < a0.2.2) then
              some ((0, 0, 0), (-1))
            else
              bif decide (a1 < a0.2.2) then
                some ((0, 0, 0), (-1))
              else
                bif decide ((100000000000 : Int) < a1) then
                  some ((0, 0, 0), (-1))
                else
                  P_spec_TryOnce_1_3 a1 a2 a0
noncomputable def c_spec_TryOnce : Ctr := ⟨22, [TyThrottle, I64, .bool], [TyThrottle, I64], fun x => P_spec_TryOnce x.1 x.2.1 x.2.2.1⟩
def A_spec_TryOnce : List (List Nat × Ann) := [([1, 3], [.keep 0 1, .keep 0 2, .keep 0 3, .keep 0 6, .boxd 0 3 TyThrottle, .boxd 0 6 TyThrottle])]
def In_spec_TryOnce : List (List Nat × Nat) := []
noncomputable def cs_spec_TryOnce : List Ctr := [c_spec_l15Lesser, c_spec_l1Pow2]
noncomputable def F_spec_TryOnce (n : Nat) (a0 : DThrottle) (a1 : Int) (a2 : Bool) : Option (DThrottle × Int) := run Try.prog A_spec_TryOnce In_spec_TryOnce (conOf cs_spec_TryOnce) Try.f22 (Try.f22.body.getD .skip) (packT [TyThrottle, I64]) n (argsV [TyThrottle, I64, .bool] (a0, a1, a2, ()))
noncomputable abbrev L_spec_TryOnce_1_3 (n : Nat) (x1 : Int) (x2 : Bool) (x3 : DThrottle) (x4 : DThrottle) : Option (DThrottle × Int) := lam Try.prog A_spec_TryOnce In_spec_TryOnce (conOf cs_spec_TryOnce) Try.f22 (Try.f22.body.getD .skip) (packT [TyThrottle, I64]) n [1, 3] [.d I64 x1, .d .bool x2, .ptr 0 3 0, .ptr 0 6 0, .agg (explode TyThrottle x3), .agg (explode TyThrottle x4)]
theorem F_spec_TryOnce_eq (n : Nat) (a0 : DThrottle) (a1 : Int) (a2 : Bool) : F_spec_TryOnce n a0 a1 a2 =
    bif decide (a0.1 < 0) then
      some ((0, 0, 0), (-1))
    else
      bif decide ((1000000 : Int) < a0.1) then
        some ((0, 0, 0), (-1))
      else
        bif decide (a0.2.1 < 0) then
          some ((0, 0, 0), (-1))
        else
          bif decide ((100000003600 : Int) < a0.2.1) then
            some ((0, 0, 0), (-1))
          else
            bif decide (a0.2.2 < 0) then
              some ((0, 0, 0), (-1))
            else
              bif decide ((100000003600 : Int) < a0.2.2) then
                some ((0, 0, 0), (-1))
              else
                bif decide (a1 < a0.2.2) then
                  some ((0, 0, 0), (-1))
                else
                  bif decide ((100000000000 : Int) < a1) then
                    some ((0, 0, 0), (-1))
                  else
                    L_spec_TryOnce_1_3 n a1 a2 a0 (0, 0, 0) := by kernel_rfl
theorem L_spec_TryOnce_1_3_eq (n : Nat) (x1 : Int) (x2 : Bool) (x3 : DThrottle) (x4 : DThrottle) : L_spec_TryOnce_1_3 (n + 1) x1 x2 x3 x4 =
    bif decide (x1 < x3.2.1) then
      some (x3, 2)
    else
      bif x2 then
        some ((0, 0, x1), 0)
      else
        bif decide ((3 : Int) ≤ T_spec_l15Lesser (IntKind.wrap .i64 (x3.1 + 1)) 1000000) then
          Option.bind (E_spec_l1Pow2 (T_spec_l15Lesser (IntKind.wrap .i64 ((T_spec_l15Lesser (IntKind.wrap .i64 (x3.1 + 1)) 1000000) - 3)) 20)) fun (y1 : Int) =>
          some ((T_spec_l15Lesser (IntKind.wrap .i64 (x3.1 + 1)) 1000000, IntKind.wrap .i64 (x1 + (T_spec_l15Lesser 3600 (IntKind.wrap .i64 (10 * y1)))), x1), 1)
        else
          some ((T_spec_l15Lesser (IntKind.wrap .i64 (x3.1 + 1)) 1000000, 0, x1), 1) := by kernel_rfl
theorem S_spec_TryOnce_1_3 {x1 : Int} {x2 : Bool} {x3 : DThrottle} {x4 : DThrottle} {r : (DThrottle × Int)} (h : P_spec_TryOnce_1_3 x1 x2 x3 = some r) : Ev (fun n => L_spec_TryOnce_1_3 n x1 x2 x3 x4) r := by
  rw [P_spec_TryOnce_1_3] at h
  refine Ev.step ?_ (fun n => L_spec_TryOnce_1_3_eq n x1 x2 x3 x4)
  exact (Ev.ofBif h (fun h => (Ev.ofSome h)) (fun h => (Ev.ofBif h (fun h => (Ev.ofSome h)) (fun h => (Ev.ofBif h (fun h => (Ev.ofBind h fun y1 h => (Ev.ofSome h))) (fun h => (Ev.ofSome h)))))))
theorem S_spec_TryOnce (a0 : DThrottle) (a1 : Int) (a2 : Bool) {r : (DThrottle × Int)} (h : P_spec_TryOnce a0 a1 a2 = some r) : Ev (fun n => F_spec_TryOnce n a0 a1 a2) r := by
  rw [P_spec_TryOnce] at h
  refine Ev.of_eq ?_ (fun n => F_spec_TryOnce_eq n a0 a1 a2)
  exact (Ev.ofBif h (fun h => (Ev.ofSome h)) (fun h => (Ev.ofBif h (fun h => (Ev.ofSome h)) (fun h => (Ev.ofBif h (fun h => (Ev.ofSome h)) (fun h => (Ev.ofBif h (fun h => (Ev.ofSome h)) (fun h => (Ev.ofBif h (fun h => (Ev.ofSome h)) (fun h => (Ev.ofBif h (fun h => (Ev.ofSome h)) (fun h => (Ev.ofBif h (fun h => (Ev.ofSome h)) (fun h => (Ev.ofBif h (fun h => (Ev.ofSome h)) (fun h => (S_spec_TryOnce_1_3 h)))))))))))))))))
theorem hcs_spec_TryOnce : ∀ x ∈ cs_spec_TryOnce, CtrOk Try.prog x := (conOf_cons ok_spec_l15Lesser (conOf_cons ok_spec_l1Pow2 conOf_nil))
theorem ok_spec_TryOnce : CtrOk Try.prog (c_spec_TryOnce) := by
  refine ctr_of_run (c := c_spec_TryOnce) (by kernel_rfl) (by kernel_rfl : Try.prog.funcs[22]? = some Try.f22) (code := Try.f22.body.getD .skip) (by kernel_rfl) (by kernel_rfl) (by kernel_rfl) (A := A_spec_TryOnce) (I := In_spec_TryOnce) (hcs_spec_TryOnce) ?_
  rintro ⟨a0, a1, a2, u⟩ y hy
  exact (S_spec_TryOnce a0 a1 a2 hy).get

/-! ## spec.RunTries (12) -/
noncomputable def P_spec_RunTries_0_6 : List DTry → (List Int) → DThrottle → Option (List Int)
  | [], x1, x5 =>
      some x1
  | e :: rest, x1, x5 =>
      Option.bind (P_spec_TryOnce x5 ((e).1) ((e).2)) fun (y1 : (DThrottle × Int)) =>
      bif decide ((0 : Int) ≤ y1.2) then
        bif decide (((x1.length : Int) + (([y1.2] : List Int).length : Int)) * 8 ≤ room) && decide ((x1.length : Int) + (([y1.2] : List Int).length : Int) ≤ room) then
          P_spec_RunTries_0_6 rest (x1 ++ ([y1.2] : List Int)) y1.1
        else none
      else
        bif decide (((x1.length : Int) + (([y1.2] : List Int).length : Int)) * 8 ≤ room) && decide ((x1.length : Int) + (([y1.2] : List Int).length : Int) ≤ room) then
          P_spec_RunTries_0_6 rest (x1 ++ ([y1.2] : List Int)) x5
        else none
noncomputable def P_spec_RunTries (a0 : (List DTry)) : Option (List Int) :=
  bif decide ((1000 : Int) < (a0.length : Int)) then
    some ([])
  else
    lenOk a0 (P_spec_RunTries_0_6 a0 [] (0, 0, 0))
noncomputable def c_spec_RunTries : Ctr := ⟨12, [(.list TyTry)], [(.list I64)], fun x => P_spec_RunTries x.1⟩
def A_spec_RunTries : List (List Nat × Ann) := [([0, 6], [.own 0 3 I64, .keep 0 4, .keep 0 13, .keep 0 14, .keep 0 15, .boxd 0 4 TyThrottle])]
def In_spec_RunTries : List (List Nat × Nat) := []
noncomputable def cs_spec_RunTries : List Ctr := [c_spec_TryOnce]
noncomputable def F_spec_RunTries (n : Nat) (a0 : (List DTry)) : Option (List Int) := run Try.prog A_spec_RunTries In_spec_RunTries (conOf cs_spec_RunTries) Try.f12 (Try.f12.body.getD .skip) (packT [(.list I64)]) n (argsV [(.list TyTry)] (a0, ()))
noncomputable abbrev L_spec_RunTries_0_6 (n : Nat) (x1 : (List Int)) (x2 : (List DTry)) (x3 : Int) (x4 : Int) (x5 : DThrottle) : Option (List Int) := lam Try.prog A_spec_RunTries In_spec_RunTries (conOf cs_spec_RunTries) Try.f12 (Try.f12.body.getD .skip) (packT [(.list I64)]) n [0, 6] [.own 0 I64 x1, .ptr 0 4 0, .d (.list TyTry) x2, .d I64 x3, .d I64 x4, .agg (explode TyThrottle x5)]
theorem F_spec_RunTries_eq (n : Nat) (a0 : (List DTry)) : F_spec_RunTries n a0 =
    bif decide ((1000 : Int) < (a0.length : Int)) then
      some ([])
    else
      L_spec_RunTries_0_6 n [] a0 (a0.length : Int) 0 (0, 0, 0) := by kernel_rfl
theorem L_spec_RunTries_0_6_eq (n : Nat) (x1 : (List Int)) (x2 : (List DTry)) (x3 : Int) (x4 : Int) (x5 : DThrottle) : L_spec_RunTries_0_6 (n + 1) x1 x2 x3 x4 x5 =
    bif decide (x4 < x3) then
      bif inB x4 x2.length then
        Option.bind (P_spec_TryOnce x5 ((rd x2 x4 (Ty.dflt TyTry)).1) ((rd x2 x4 (Ty.dflt TyTry)).2)) fun (y1 : (DThrottle × Int)) =>
        bif decide ((0 : Int) ≤ y1.2) then
          bif decide (((x1.length : Int) + (([y1.2] : List Int).length : Int)) * 8 ≤ room) && decide ((x1.length : Int) + (([y1.2] : List Int).length : Int) ≤ room) then
            L_spec_RunTries_0_6 n (x1 ++ ([y1.2] : List Int)) x2 x3 (IntKind.wrap .i64 (x4 + 1)) y1.1
          else none
        else
          bif decide (((x1.length : Int) + (([y1.2] : List Int).length : Int)) * 8 ≤ room) && decide ((x1.length : Int) + (([y1.2] : List Int).length : Int) ≤ room) then
            L_spec_RunTries_0_6 n (x1 ++ ([y1.2] : List Int)) x2 x3 (IntKind.wrap .i64 (x4 + 1)) x5
          else none
      else none
    else
      some x1 := by kernel_rfl
theorem S_spec_RunTries_0_6 {x2 : (List DTry)} (hl : x2.length ≤ maxLen) : ∀ (rest : List DTry) (k : Nat) (x1 : (List Int)) (x5 : DThrottle) (r : (List Int)), rest = x2.drop k → P_spec_RunTries_0_6 rest x1 x5 = some r → Ev (fun n => L_spec_RunTries_0_6 n x1 x2 (x2.length : Int) (k : Int) x5) r := by
  intro rest
  induction rest with
  | nil =>
    intro k x1 x5 r hr h
    have hk := drop_nil hr
    rw [P_spec_RunTries_0_6] at h
    refine Ev.step ?_ (fun n => L_spec_RunTries_0_6_eq n x1 x2 (x2.length : Int) (k : Int) x5)
    rw [show decide ((k : Int) < (x2.length : Int)) = false from decide_eq_false (by omega)]
    exact Ev.neg rfl (Ev.ofSome h)
  | cons e rest ih =>
    intro k x1 x5 r hr h
    obtain ⟨hk, hx, hr2⟩ := drop_cons (d := (Ty.dflt TyTry)) hr
    have hw := wrap_succ hl hk
    have ih2 : ∀ (z1 : (List Int)) (z5 : DThrottle) (r : (List Int)), P_spec_RunTries_0_6 rest z1 z5 = some r → Ev (fun n => L_spec_RunTries_0_6 n z1 x2 (x2.length : Int) (IntKind.wrap .i64 ((k : Int) + 1)) z5) r := by
      intro z1 z5 r h; rw [hw]; exact ih (k + 1) z1 z5 r hr2 h
    rw [P_spec_RunTries_0_6] at h
    refine Ev.step ?_ (fun n => L_spec_RunTries_0_6_eq n x1 x2 (x2.length : Int) (k : Int) x5)
    rw [show decide ((k : Int) < (x2.length : Int)) = true from decide_eq_true (by omega), inB_nat2 hk, hx]
    exact Ev.pos rfl (Ev.pos rfl (Ev.ofBind h fun y1 h => (Ev.ofBif h (fun h => (Ev.ofBif h (fun h => (ih2 _ _ _ h)) (fun h => (Ev.ofNone h)))) (fun h => (Ev.ofBif h (fun h => (ih2 _ _ _ h)) (fun h => (Ev.ofNone h)))))))
theorem S_spec_RunTries (a0 : (List DTry)) {r : (List Int)} (h : P_spec_RunTries a0 = some r) : Ev (fun n => F_spec_RunTries n a0) r := by
  rw [P_spec_RunTries] at h
  refine Ev.of_eq ?_ (fun n => F_spec_RunTries_eq n a0)
  exact (Ev.ofBif h (fun h => (Ev.ofSome h)) (fun h => (Ev.ofLen h fun hl h => S_spec_RunTries_0_6 hl _ (0 : Nat) _ _ _ rfl h)))
theorem hcs_spec_RunTries : ∀ x ∈ cs_spec_RunTries, CtrOk Try.prog x := (conOf_cons ok_spec_TryOnce conOf_nil)
theorem ok_spec_RunTries : CtrOk Try.prog (c_spec_RunTries) := by
  refine ctr_of_run (c := c_spec_RunTries) (by kernel_rfl) (by kernel_rfl : Try.prog.funcs[12]? = some Try.f12) (code := Try.f12.body.getD .skip) (by kernel_rfl) (by kernel_rfl) (by kernel_rfl) (A := A_spec_RunTries) (I := In_spec_RunTries) (hcs_spec_RunTries) ?_
  rintro ⟨a0, u⟩ y hy
  exact (S_spec_RunTries a0 hy).get

/-! ## impl.TryOnce (24) -/
noncomputable def P_impl_TryOnce_1_3 (x1 : Int) (x2 : Bool) (x3 : DThrottle) : Option (DThrottle × Int) :=
  bif decide (x1 < x3.2.1) then
    some (x3, 2)
  else
    bif x2 then
      some ((0, 0, x1), 0)
    else
      bif decide ((3 : Int) ≤ bif decide ((1000000 : Int) < IntKind.wrap .i64 (x3.1 + 1)) then 1000000 else IntKind.wrap .i64 (x3.1 + 1)) then
        bif decide ((0 : Int) ≤ bif decide ((20 : Int) < IntKind.wrap .i64 ((bif decide ((1000000 : Int) < IntKind.wrap .i64 (x3.1 + 1)) then 1000000 else IntKind.wrap .i64 (x3.1 + 1)) - 3)) then 20 else IntKind.wrap .i64 ((bif decide ((1000000 : Int) < IntKind.wrap .i64 (x3.1 + 1)) then 1000000 else IntKind.wrap .i64 (x3.1 + 1)) - 3)) then
          some ((bif decide ((1000000 : Int) < IntKind.wrap .i64 (x3.1 + 1)) then 1000000 else IntKind.wrap .i64 (x3.1 + 1), IntKind.wrap .i64 (x1 + (bif decide (IntKind.wrap .i64 (10 * 2 ^ (min (Int.toNat (bif decide ((20 : Int) < IntKind.wrap .i64 ((bif decide ((1000000 : Int) < IntKind.wrap .i64 (x3.1 + 1)) then 1000000 else IntKind.wrap .i64 (x3.1 + 1)) - 3)) then 20 else IntKind.wrap .i64 ((bif decide ((1000000 : Int) < IntKind.wrap .i64 (x3.1 + 1)) then 1000000 else IntKind.wrap .i64 (x3.1 + 1)) - 3))) 64)) < 3600) then IntKind.wrap .i64 (10 * 2 ^ (min (Int.toNat (bif decide ((20 : Int) < IntKind.wrap .i64 ((bif decide ((1000000 : Int) < IntKind.wrap .i64 (x3.1 + 1)) then 1000000 else IntKind.wrap .i64 (x3.1 + 1)) - 3)) then 20 else IntKind.wrap .i64 ((bif decide ((1000000 : Int) < IntKind.wrap .i64 (x3.1 + 1)) then 1000000 else IntKind.wrap .i64 (x3.1 + 1)) - 3))) 64)) else 3600)), x1), 1)
        else none
      else
        some ((bif decide ((1000000 : Int) < IntKind.wrap .i64 (x3.1 + 1)) then 1000000 else IntKind.wrap .i64 (x3.1 + 1), 0, x1), 1)
noncomputable def P_impl_TryOnce (a0 : DThrottle) (a1 : Int) (a2 : Bool) : Option (DThrottle × Int) :=
  bif decide (a0.1 < 0) then
    some ((0, 0, 0), (-1))
  else
    bif decide ((1000000 : Int) < a0.1) then
      some ((0, 0, 0), (-1))
    else
      bif decide (a0.2.1 < 0) then
        some ((0, 0, 0), (-1))
      else
        bif decide ((100000003600 : Int) < a0.2.1) then
          some ((0, 0, 0), (-1))
        else
          bif decide (a0.2.2 < 0) then
            some ((0, 0, 0), (-1))
          else
            bif decide ((100000003600 : Int) < a0.2.2) then
              some ((0, 0, 0), (-1))
            else
              bif decide (a1 < a0.2.2) then
                some ((0, 0, 0), (-1))
              else
                bif decide ((100000000000 : Int) < a1) then
                  some ((0, 0, 0), (-1))
                else
                  P_impl_TryOnce_1_3 a1 a2 a0
noncomputable def c_impl_TryOnce : Ctr := ⟨24, [TyThrottle, I64, .bool], [TyThrottle, I64], fun x => P_impl_TryOnce x.1 x.2.1 x.2.2.1⟩
def A_impl_TryOnce : List (List Nat × Ann) := [([1, 3], [.keep 0 1, .keep 0 2, .keep 0 3, .keep 0 6, .boxd 0 3 TyThrottle, .boxd 0 6 TyThrottle])]
def In_impl_TryOnce : List (List Nat × Nat) := []
noncomputable def cs_impl_TryOnce : List Ctr := []
noncomputable def F_impl_TryOnce (n : Nat) (a0 : DThrottle) (a1 : Int) (a2 : Bool) : Option (DThrottle × Int) := run Try.prog A_impl_TryOnce In_impl_TryOnce (conOf cs_impl_TryOnce) Try.f24 (Try.f24.body.getD .skip) (packT [TyThrottle, I64]) n (argsV [TyThrottle, I64, .bool] (a0, a1, a2, ()))
noncomputable abbrev L_impl_TryOnce_1_3 (n : Nat) (x1 : Int) (x2 : Bool) (x3 : DThrottle) (x4 : DThrottle) : Option (DThrottle × Int) := lam Try.prog A_impl_TryOnce In_impl_TryOnce (conOf cs_impl_TryOnce) Try.f24 (Try.f24.body.getD .skip) (packT [TyThrottle, I64]) n [1, 3] [.d I64 x1, .d .bool x2, .ptr 0 3 0, .ptr 0 6 0, .agg (explode TyThrottle x3), .agg (explode TyThrottle x4)]
theorem F_impl_TryOnce_eq (n : Nat) (a0 : DThrottle) (a1 : Int) (a2 : Bool) : F_impl_TryOnce n a0 a1 a2 =
    bif decide (a0.1 < 0) then
      some ((0, 0, 0), (-1))
    else
      bif decide ((1000000 : Int) < a0.1) then
        some ((0, 0, 0), (-1))
      else
        bif decide (a0.2.1 < 0) then
          some ((0, 0, 0), (-1))
        else
          bif decide ((100000003600 : Int) < a0.2.1) then
            some ((0, 0, 0), (-1))
          else
            bif decide (a0.2.2 < 0) then
              some ((0, 0, 0), (-1))
            else
              bif decide ((100000003600 : Int) < a0.2.2) then
                some ((0, 0, 0), (-1))
              else
                bif decide (a1 < a0.2.2) then
                  some ((0, 0, 0), (-1))
                else
                  bif decide ((100000000000 : Int) < a1) then
                    some ((0, 0, 0), (-1))
                  else
                    L_impl_TryOnce_1_3 n a1 a2 a0 (0, 0, 0) := by kernel_rfl
theorem L_impl_TryOnce_1_3_eq (n : Nat) (x1 : Int) (x2 : Bool) (x3 : DThrottle) (x4 : DThrottle) : L_impl_TryOnce_1_3 (n + 1) x1 x2 x3 x4 =
    bif decide (x1 < x3.2.1) then
      some (x3, 2)
    else
      bif x2 then
        some ((0, 0, x1), 0)
      else
        bif decide ((3 : Int) ≤ bif decide ((1000000 : Int) < IntKind.wrap .i64 (x3.1 + 1)) then 1000000 else IntKind.wrap .i64 (x3.1 + 1)) then
          bif decide ((0 : Int) ≤ bif decide ((20 : Int) < IntKind.wrap .i64 ((bif decide ((1000000 : Int) < IntKind.wrap .i64 (x3.1 + 1)) then 1000000 else IntKind.wrap .i64 (x3.1 + 1)) - 3)) then 20 else IntKind.wrap .i64 ((bif decide ((1000000 : Int) < IntKind.wrap .i64 (x3.1 + 1)) then 1000000 else IntKind.wrap .i64 (x3.1 + 1)) - 3)) then
            some ((bif decide ((1000000 : Int) < IntKind.wrap .i64 (x3.1 + 1)) then 1000000 else IntKind.wrap .i64 (x3.1 + 1), IntKind.wrap .i64 (x1 + (bif decide (IntKind.wrap .i64 (10 * 2 ^ (min (Int.toNat (bif decide ((20 : Int) < IntKind.wrap .i64 ((bif decide ((1000000 : Int) < IntKind.wrap .i64 (x3.1 + 1)) then 1000000 else IntKind.wrap .i64 (x3.1 + 1)) - 3)) then 20 else IntKind.wrap .i64 ((bif decide ((1000000 : Int) < IntKind.wrap .i64 (x3.1 + 1)) then 1000000 else IntKind.wrap .i64 (x3.1 + 1)) - 3))) 64)) < 3600) then IntKind.wrap .i64 (10 * 2 ^ (min (Int.toNat (bif decide ((20 : Int) < IntKind.wrap .i64 ((bif decide ((1000000 : Int) < IntKind.wrap .i64 (x3.1 + 1)) then 1000000 else IntKind.wrap .i64 (x3.1 + 1)) - 3)) then 20 else IntKind.wrap .i64 ((bif decide ((1000000 : Int) < IntKind.wrap .i64 (x3.1 + 1)) then 1000000 else IntKind.wrap .i64 (x3.1 + 1)) - 3))) 64)) else 3600)), x1), 1)
          else none
        else
          some ((bif decide ((1000000 : Int) < IntKind.wrap .i64 (x3.1 + 1)) then 1000000 else IntKind.wrap .i64 (x3.1 + 1), 0, x1), 1) := by kernel_rfl
theorem S_impl_TryOnce_1_3 {x1 : Int} {x2 : Bool} {x3 : DThrottle} {x4 : DThrottle} {r : (DThrottle × Int)} (h : P_impl_TryOnce_1_3 x1 x2 x3 = some r) : Ev (fun n => L_impl_TryOnce_1_3 n x1 x2 x3 x4) r := by
  rw [P_impl_TryOnce_1_3] at h
  refine Ev.step ?_ (fun n => L_impl_TryOnce_1_3_eq n x1 x2 x3 x4)
  exact (Ev.ofBif h (fun h => (Ev.ofSome h)) (fun h => (Ev.ofBif h (fun h => (Ev.ofSome h)) (fun h => (Ev.ofBif h (fun h => (Ev.ofBif h (fun h => (Ev.ofSome h)) (fun h => (Ev.ofNone h)))) (fun h => (Ev.ofSome h)))))))
theorem S_impl_TryOnce (a0 : DThrottle) (a1 : Int) (a2 : Bool) {r : (DThrottle × Int)} (h : P_impl_TryOnce a0 a1 a2 = some r) : Ev (fun n => F_impl_TryOnce n a0 a1 a2) r := by
  rw [P_impl_TryOnce] at h
  refine Ev.of_eq ?_ (fun n => F_impl_TryOnce_eq n a0 a1 a2)
  exact (Ev.ofBif h (fun h => (Ev.ofSome h)) (fun h => (Ev.ofBif h (fun h => (Ev.ofSome h)) (fun h => (Ev.ofBif h (fun h => (Ev.ofSome h)) (fun h => (Ev.ofBif h (fun h => (Ev.ofSome h)) (fun h => (Ev.ofBif h (fun h => (Ev.ofSome h)) (fun h => (Ev.ofBif h (fun h => (Ev.ofSome h)) (fun h => (Ev.ofBif h (fun h => (Ev.ofSome h)) (fun h => (Ev.ofBif h (fun h => (Ev.ofSome h)) (fun h => (S_impl_TryOnce_1_3 h)))))))))))))))))
theorem hcs_impl_TryOnce : ∀ x ∈ cs_impl_TryOnce, CtrOk Try.prog x := conOf_nil
theorem ok_impl_TryOnce : CtrOk Try.prog (c_impl_TryOnce) := by
  refine ctr_of_run (c := c_impl_TryOnce) (by kernel_rfl) (by kernel_rfl : Try.prog.funcs[24]? = some Try.f24) (code := Try.f24.body.getD .skip) (by kernel_rfl) (by kernel_rfl) (by kernel_rfl) (A := A_impl_TryOnce) (I := In_impl_TryOnce) (hcs_impl_TryOnce) ?_
  rintro ⟨a0, a1, a2, u⟩ y hy
  exact (S_impl_TryOnce a0 a1 a2 hy).get

/-! ## impl.RunTries (14) -/
noncomputable def P_impl_RunTries_0_6 : List DTry → (List Int) → DThrottle → Option (List Int)
  | [], x1, x5 =>
      some x1
  | e :: rest, x1, x5 =>
      Option.bind (P_impl_TryOnce x5 ((e).1) ((e).2)) fun (y1 : (DThrottle × Int)) =>
      bif decide ((0 : Int) ≤ y1.2) then
        bif decide (((x1.length : Int) + (([y1.2] : List Int).length : Int)) * 8 ≤ room) && decide ((x1.length : Int) + (([y1.2] : List Int).length : Int) ≤ room) then
          P_impl_RunTries_0_6 rest (x1 ++ ([y1.2] : List Int)) y1.1
        else none
      else
        bif decide (((x1.length : Int) + (([y1.2] : List Int).length : Int)) * 8 ≤ room) && decide ((x1.length : Int) + (([y1.2] : List Int).length : Int) ≤ room) then
          P_impl_RunTries_0_6 rest (x1 ++ ([y1.2] : List Int)) x5
        else none
noncomputable def P_impl_RunTries (a0 : (List DTry)) : Option (List Int) :=
  bif decide ((1000 : Int) < (a0.length : Int)) then
    some ([])
  else
    lenOk a0 (P_impl_RunTries_0_6 a0 [] (0, 0, 0))
noncomputable def c_impl_RunTries : Ctr := ⟨14, [(.list TyTry)], [(.list I64)], fun x => P_impl_RunTries x.1⟩
def A_impl_RunTries : List (List Nat × Ann) := [([0, 6], [.keep 0 3, .own 0 4 I64, .keep 0 12, .keep 0 13, .keep 0 14, .boxd 0 3 TyThrottle])]
def In_impl_RunTries : List (List Nat × Nat) := []
noncomputable def cs_impl_RunTries : List Ctr := [c_impl_TryOnce]
noncomputable def F_impl_RunTries (n : Nat) (a0 : (List DTry)) : Option (List Int) := run Try.prog A_impl_RunTries In_impl_RunTries (conOf cs_impl_RunTries) Try.f14 (Try.f14.body.getD .skip) (packT [(.list I64)]) n (argsV [(.list TyTry)] (a0, ()))
noncomputable abbrev L_impl_RunTries_0_6 (n : Nat) (x1 : (List Int)) (x2 : (List DTry)) (x3 : Int) (x4 : Int) (x5 : DThrottle) : Option (List Int) := lam Try.prog A_impl_RunTries In_impl_RunTries (conOf cs_impl_RunTries) Try.f14 (Try.f14.body.getD .skip) (packT [(.list I64)]) n [0, 6] [.ptr 0 3 0, .own 0 I64 x1, .d (.list TyTry) x2, .d I64 x3, .d I64 x4, .agg (explode TyThrottle x5)]
theorem F_impl_RunTries_eq (n : Nat) (a0 : (List DTry)) : F_impl_RunTries n a0 =
    bif decide ((1000 : Int) < (a0.length : Int)) then
      some ([])
    else
      L_impl_RunTries_0_6 n [] a0 (a0.length : Int) 0 (0, 0, 0) := by kernel_rfl
theorem L_impl_RunTries_0_6_eq (n : Nat) (x1 : (List Int)) (x2 : (List DTry)) (x3 : Int) (x4 : Int) (x5 : DThrottle) : L_impl_RunTries_0_6 (n + 1) x1 x2 x3 x4 x5 =
    bif decide (x4 < x3) then
      bif inB x4 x2.length then
        Option.bind (P_impl_TryOnce x5 ((rd x2 x4 (Ty.dflt TyTry)).1) ((rd x2 x4 (Ty.dflt TyTry)).2)) fun (y1 : (DThrottle × Int)) =>
        bif decide ((0 : Int) ≤ y1.2) then
          bif decide (((x1.length : Int) + (([y1.2] : List Int).length : Int)) * 8 ≤ room) && decide ((x1.length : Int) + (([y1.2] : List Int).length : Int) ≤ room) then
            L_impl_RunTries_0_6 n (x1 ++ ([y1.2] : List Int)) x2 x3 (IntKind.wrap .i64 (x4 + 1)) y1.1
          else none
        else
          bif decide (((x1.length : Int) + (([y1.2] : List Int).length : Int)) * 8 ≤ room) && decide ((x1.length : Int) + (([y1.2] : List Int).length : Int) ≤ room) then
            L_impl_RunTries_0_6 n (x1 ++ ([y1.2] : List Int)) x2 x3 (IntKind.wrap .i64 (x4 + 1)) x5
          else none
      else none
    else
      some x1 := by kernel_rfl
theorem S_impl_RunTries_0_6 {x2 : (List DTry)} (hl : x2.length ≤ maxLen) : ∀ (rest : List DTry) (k : Nat) (x1 : (List Int)) (x5 : DThrottle) (r : (List Int)), rest = x2.drop k → P_impl_RunTries_0_6 rest x1 x5 = some r → Ev (fun n => L_impl_RunTries_0_6 n x1 x2 (x2.length : Int) (k : Int) x5) r := by
  intro rest
  induction rest with
  | nil =>
    intro k x1 x5 r hr h
    have hk := drop_nil hr
    rw [P_impl_RunTries_0_6] at h
    refine Ev.step ?_ (fun n => L_impl_RunTries_0_6_eq n x1 x2 (x2.length : Int) (k : Int) x5)
    rw [show decide ((k : Int) < (x2.length : Int)) = false from decide_eq_false (by omega)]
    exact Ev.neg rfl (Ev.ofSome h)
  | cons e rest ih =>
    intro k x1 x5 r hr h
    obtain ⟨hk, hx, hr2⟩ := drop_cons (d := (Ty.dflt TyTry)) hr
    have hw := wrap_succ hl hk
    have ih2 : ∀ (z1 : (List Int)) (z5 : DThrottle) (r : (List Int)), P_impl_RunTries_0_6 rest z1 z5 = some r → Ev (fun n => L_impl_RunTries_0_6 n z1 x2 (x2.length : Int) (IntKind.wrap .i64 ((k : Int) + 1)) z5) r := by
      intro z1 z5 r h; rw [hw]; exact ih (k + 1) z1 z5 r hr2 h
    rw [P_impl_RunTries_0_6] at h
    refine Ev.step ?_ (fun n => L_impl_RunTries_0_6_eq n x1 x2 (x2.length : Int) (k : Int) x5)
    rw [show decide ((k : Int) < (x2.length : Int)) = true from decide_eq_true (by omega), inB_nat2 hk, hx]
    exact Ev.pos rfl (Ev.pos rfl (Ev.ofBind h fun y1 h => (Ev.ofBif h (fun h => (Ev.ofBif h (fun h => (ih2 _ _ _ h)) (fun h => (Ev.ofNone h)))) (fun h => (Ev.ofBif h (fun h => (ih2 _ _ _ h)) (fun h => (Ev.ofNone h)))))))
theorem S_impl_RunTries (a0 : (List DTry)) {r : (List Int)} (h : P_impl_RunTries a0 = some r) : Ev (fun n => F_impl_RunTries n a0) r := by
  rw [P_impl_RunTries] at h
  refine Ev.of_eq ?_ (fun n => F_impl_RunTries_eq n a0)
  exact (Ev.ofBif h (fun h => (Ev.ofSome h)) (fun h => (Ev.ofLen h fun hl h => S_impl_RunTries_0_6 hl _ (0 : Nat) _ _ _ rfl h)))
theorem hcs_impl_RunTries : ∀ x ∈ cs_impl_RunTries, CtrOk Try.prog x := (conOf_cons ok_impl_TryOnce conOf_nil)
theorem ok_impl_RunTries : CtrOk Try.prog (c_impl_RunTries) := by
  refine ctr_of_run (c := c_impl_RunTries) (by kernel_rfl) (by kernel_rfl : Try.prog.funcs[14]? = some Try.f14) (code := Try.f14.body.getD .skip) (by kernel_rfl) (by kernel_rfl) (by kernel_rfl) (A := A_impl_RunTries) (I := In_impl_RunTries) (hcs_impl_RunTries) ?_
  rintro ⟨a0, u⟩ y hy
  exact (S_impl_RunTries a0 hy).get

/-! ## laws.toTry (23) -/
noncomputable def c_laws_toTry : Ctr := ⟨23, [TyTry], [TyTry], fun x => toC TyTry x.1⟩
def A_laws_toTry : List (List Nat × Ann) := []
def In_laws_toTry : List (List Nat × Nat) := []
noncomputable def cs_laws_toTry : List Ctr := []
noncomputable def F_laws_toTry (n : Nat) (a0 : DTry) : Option DTry := run Try.prog A_laws_toTry In_laws_toTry (conOf cs_laws_toTry) Try.f23 (Try.f23.body.getD .skip) (packT [TyTry]) n (argsV [TyTry] (a0, ()))
theorem F_laws_toTry_eq (n : Nat) (a0 : DTry) : F_laws_toTry n a0 =
    some a0 := by kernel_rfl
theorem mk_laws_toTry (hcs : ∀ x ∈ cs_laws_toTry, CtrOk Try.prog x) (h : ∀ (a0 : DTry) y, toC TyTry a0 = some y → ∃ n, F_laws_toTry n a0 = some y) : CtrOk Try.prog c_laws_toTry := by
  refine ctr_of_run (c := c_laws_toTry) (by kernel_rfl) (by kernel_rfl : Try.prog.funcs[23]? = some Try.f23) (code := Try.f23.body.getD .skip) (by kernel_rfl) (by kernel_rfl) (by kernel_rfl) (A := A_laws_toTry) (I := In_laws_toTry) hcs ?_
  rintro ⟨a0, u⟩ y hy
  exact h a0 y hy

theorem hcs_laws_toTry : ∀ x ∈ cs_laws_toTry, CtrOk Try.prog x := conOf_nil
theorem ok_laws_toTry : CtrOk Try.prog c_laws_toTry := mk_laws_toTry hcs_laws_toTry fun a0 y hy => by
  obtain ⟨hw, hs, rfl⟩ := toC_inv hy
  have hw2 : wfD I64 y.1 ∧ wfD .bool y.2 := hw
  have hs2 : Ty.size I64 y.1 + (Ty.size .bool y.2) ≤ 1073741824 := hs
  refine ⟨0, ?_⟩
  rw [F_laws_toTry_eq]
  try rfl
/-! ## laws.toTryS (13) -/
noncomputable def c_laws_toTryS : Ctr := ⟨13, [(.list TyTry)], [(.list TyTry)], fun x => toC (.list TyTry) x.1⟩
def A_laws_toTryS : List (List Nat × Ann) := [([0, 3], [.keep 0 0, .keep 0 3, .keep 0 4, .rows 0 7 TyTry])]
def In_laws_toTryS : List (List Nat × Nat) := []
noncomputable def cs_laws_toTryS : List Ctr := [c_laws_toTry]
noncomputable def F_laws_toTryS (n : Nat) (a0 : (List DTry)) : Option (List DTry) := run Try.prog A_laws_toTryS In_laws_toTryS (conOf cs_laws_toTryS) Try.f13 (Try.f13.body.getD .skip) (packT [(.list TyTry)]) n (argsV [(.list TyTry)] (a0, ()))
noncomputable abbrev L_laws_toTryS_0_3 (n : Nat) (x1 : (List DTry)) (x2 : Int) (x3 : (List DTry)) : Option (List DTry) := lam Try.prog A_laws_toTryS In_laws_toTryS (conOf cs_laws_toTryS) Try.f13 (Try.f13.body.getD .skip) (packT [(.list TyTry)]) n [0, 3] [.d (.list TyTry) x1, .msl 0 7, .d I64 x2, .d (.list TyTry) x3]
theorem F_laws_toTryS_eq (n : Nat) (a0 : (List DTry)) : F_laws_toTryS n a0 =
    bif decide ((a0.length : Int) = (a0.length : Int)) && decide ((0 : Int) ≤ (a0.length : Int)) && decide ((a0.length : Int) * 16 ≤ room) && true then
      L_laws_toTryS_0_3 n a0 0 (List.replicate (Int.toNat (a0.length : Int)) (0, false))
    else none := by kernel_rfl
theorem L_laws_toTryS_0_3_eq (n : Nat) (x1 : (List DTry)) (x2 : Int) (x3 : (List DTry)) : L_laws_toTryS_0_3 (n + 1) x1 x2 x3 =
    bif decide (x2 < (x1.length : Int)) then
      bif inB x2 x1.length then
        Option.bind (toC TyTry (rd x1 x2 (Ty.dflt TyTry))) fun (y1 : DTry) =>
        bif inB x2 x3.length then
          bif inB x2 x3.length && true && true && true && true then
            L_laws_toTryS_0_3 n x1 (IntKind.wrap .i64 (x2 + 1)) (x3.set (Int.toNat x2) y1)
          else none
        else none
      else none
    else
      some x3 := by kernel_rfl
theorem mk_laws_toTryS (hcs : ∀ x ∈ cs_laws_toTryS, CtrOk Try.prog x) (h : ∀ (a0 : (List DTry)) y, toC (.list TyTry) a0 = some y → ∃ n, F_laws_toTryS n a0 = some y) : CtrOk Try.prog c_laws_toTryS := by
  refine ctr_of_run (c := c_laws_toTryS) (by kernel_rfl) (by kernel_rfl : Try.prog.funcs[13]? = some Try.f13) (code := Try.f13.body.getD .skip) (by kernel_rfl) (by kernel_rfl) (by kernel_rfl) (A := A_laws_toTryS) (I := In_laws_toTryS) hcs ?_
  rintro ⟨a0, u⟩ y hy
  exact h a0 y hy

theorem hcs_laws_toTryS : ∀ x ∈ cs_laws_toTryS, CtrOk Try.prog x := (conOf_cons ok_laws_toTry conOf_nil)
theorem ok_laws_toTryS : CtrOk Try.prog c_laws_toTryS := mk_laws_toTryS hcs_laws_toTryS fun a0 y hy => by
  obtain ⟨n, hn⟩ := toS_ok (t := TyTry) (f := toC TyTry) (fun x h h2 => toC_some h h2) (by_ := 16) (by omega) (fun n xs i out => L_laws_toTryS_0_3_eq n xs i out) hy
  exact ⟨n, (F_laws_toTryS_eq n a0).trans hn⟩
/-! ## laws.toTryS (13) -/
noncomputable def cd_laws_toTryS : Ctr := deepOf 13 [(.list TyTry)] [(.list TyTry)] fun x => toC (.list TyTry) x.1
def Ap_laws_toTryS : List (List Nat × Ann) := [([0, 3], [.keep 0 0, .drb 0 3 TyTry, .keep 0 4])]
def Inp_laws_toTryS : List (List Nat × Nat) := [([1002], 0)]
noncomputable def csp_laws_toTryS : List Ctr := [c_laws_toTry]
noncomputable def Fp_laws_toTryS (n : Nat) (a0 : (List DTry)) : Option (List DTry) := runE Try.prog noG Ap_laws_toTryS Inp_laws_toTryS (conOf csp_laws_toTryS) Try.f13 (Try.f13.body.getD .skip) (endP Try.prog Try.f13 [(.list TyTry)]) n (argsV [(.list TyTry)] (a0, ()))
noncomputable abbrev Lp_laws_toTryS_0_3 (n : Nat) (x1 : (List DTry)) (x2 : (List DTry)) (x3 : Int) : Option (List DTry) := lamE Try.prog noG Ap_laws_toTryS Inp_laws_toTryS (conOf csp_laws_toTryS) Try.f13 (Try.f13.body.getD .skip) (endP Try.prog Try.f13 [(.list TyTry)]) n [0, 3] [.d (.list TyTry) x1, .d (.list TyTry) x2, .d I64 x3]
theorem Fp_laws_toTryS_eq (n : Nat) (a0 : (List DTry)) : Fp_laws_toTryS n a0 =
    bif decide ((a0.length : Int) = (a0.length : Int)) && decide ((0 : Int) ≤ (a0.length : Int)) && decide ((a0.length : Int) * 16 ≤ room) && true && true && true then
      Lp_laws_toTryS_0_3 n a0 (List.replicate (Int.toNat (a0.length : Int)) (0, false)) 0
    else none := by kernel_rfl
theorem Lp_laws_toTryS_0_3_eq (n : Nat) (x1 : (List DTry)) (x2 : (List DTry)) (x3 : Int) : Lp_laws_toTryS_0_3 (n + 1) x1 x2 x3 =
    bif decide (x3 < (x1.length : Int)) then
      bif inB x3 x1.length then
        Option.bind (toC TyTry (rd x1 x3 (Ty.dflt TyTry))) fun (y1 : DTry) =>
        bif inB x3 x2.length then
          bif inB x3 x2.length && true && true && true && true && true && true then
            Lp_laws_toTryS_0_3 n x1 (x2.set (Int.toNat x3) y1) (IntKind.wrap .i64 (x3 + 1))
          else none
        else none
      else none
    else
      some x2 := by kernel_rfl
theorem hcsp_laws_toTryS : ∀ x ∈ csp_laws_toTryS, CtrOk Try.prog x := (conOf_cons ok_laws_toTry conOf_nil)
theorem okd_laws_toTryS : CtrOk Try.prog cd_laws_toTryS := by
  refine ctr_of_deep (by kernel_rfl) (by kernel_rfl : Try.prog.funcs[13]? = some Try.f13) (code := Try.f13.body.getD .skip) (by kernel_rfl) (by kernel_rfl) (A := Ap_laws_toTryS) (I := Inp_laws_toTryS) hcsp_laws_toTryS ?_
  rintro ⟨a0, u⟩ y hy
  obtain ⟨n, hn⟩ := toD_ok (t := TyTry) (f := toC TyTry) (fun x h h2 => toC_some h h2) (L := fun n xs i out => Lp_laws_toTryS_0_3 n xs out i) (by_ := 16) (by omega) (fun n xs i out => Lp_laws_toTryS_0_3_eq n xs out i) hy
  exact ⟨n, (Fp_laws_toTryS_eq n a0).trans hn⟩

/-! ## impl.RunTries (14) -/
noncomputable def co_impl_RunTries : Ctr := ownOf 14 [(.list TyTry)] I64 fun x => P_impl_RunTries x.1
def Ao_impl_RunTries : List (List Nat × Ann) := [([0, 6], [.keep 0 3, .own 0 4 I64, .keep 0 12, .keep 0 13, .keep 0 14, .boxd 0 3 TyThrottle])]
def Ino_impl_RunTries : List (List Nat × Nat) := []
noncomputable def cso_impl_RunTries : List Ctr := [c_impl_TryOnce]
noncomputable def Fo_impl_RunTries (n : Nat) (a0 : (List DTry)) : Option (List Int) := runE Try.prog noG Ao_impl_RunTries Ino_impl_RunTries (conOf cso_impl_RunTries) Try.f14 (Try.f14.body.getD .skip) (endO Try.prog Try.f14 I64) n (argsV [(.list TyTry)] (a0, ()))
noncomputable abbrev Lo_impl_RunTries_0_6 (n : Nat) (x1 : (List Int)) (x2 : (List DTry)) (x3 : Int) (x4 : Int) (x5 : DThrottle) : Option (List Int) := lamE Try.prog noG Ao_impl_RunTries Ino_impl_RunTries (conOf cso_impl_RunTries) Try.f14 (Try.f14.body.getD .skip) (endO Try.prog Try.f14 I64) n [0, 6] [.ptr 0 3 0, .own 0 I64 x1, .d (.list TyTry) x2, .d I64 x3, .d I64 x4, .agg (explode TyThrottle x5)]
theorem Fo_impl_RunTries_eq (n : Nat) (a0 : (List DTry)) : Fo_impl_RunTries n a0 =
    bif decide ((1000 : Int) < (a0.length : Int)) then
      some ([])
    else
      Lo_impl_RunTries_0_6 n [] a0 (a0.length : Int) 0 (0, 0, 0) := by kernel_rfl
theorem Lo_impl_RunTries_0_6_eq (n : Nat) (x1 : (List Int)) (x2 : (List DTry)) (x3 : Int) (x4 : Int) (x5 : DThrottle) : Lo_impl_RunTries_0_6 (n + 1) x1 x2 x3 x4 x5 =
    bif decide (x4 < x3) then
      bif inB x4 x2.length then
        Option.bind (P_impl_TryOnce x5 ((rd x2 x4 (Ty.dflt TyTry)).1) ((rd x2 x4 (Ty.dflt TyTry)).2)) fun (y1 : (DThrottle × Int)) =>
        bif decide ((0 : Int) ≤ y1.2) then
          bif decide (((x1.length : Int) + (([y1.2] : List Int).length : Int)) * 8 ≤ room) && decide ((x1.length : Int) + (([y1.2] : List Int).length : Int) ≤ room) then
            Lo_impl_RunTries_0_6 n (x1 ++ ([y1.2] : List Int)) x2 x3 (IntKind.wrap .i64 (x4 + 1)) y1.1
          else none
        else
          bif decide (((x1.length : Int) + (([y1.2] : List Int).length : Int)) * 8 ≤ room) && decide ((x1.length : Int) + (([y1.2] : List Int).length : Int) ≤ room) then
            Lo_impl_RunTries_0_6 n (x1 ++ ([y1.2] : List Int)) x2 x3 (IntKind.wrap .i64 (x4 + 1)) x5
          else none
      else none
    else
      some x1 := by kernel_rfl
theorem So_impl_RunTries_0_6 {x2 : (List DTry)} (hl : x2.length ≤ maxLen) : ∀ (rest : List DTry) (k : Nat) (x1 : (List Int)) (x5 : DThrottle) (r : (List Int)), rest = x2.drop k → P_impl_RunTries_0_6 rest x1 x5 = some r → Ev (fun n => Lo_impl_RunTries_0_6 n x1 x2 (x2.length : Int) (k : Int) x5) r := by
  intro rest
  induction rest with
  | nil =>
    intro k x1 x5 r hr h
    have hk := drop_nil hr
    rw [P_impl_RunTries_0_6] at h
    refine Ev.step ?_ (fun n => Lo_impl_RunTries_0_6_eq n x1 x2 (x2.length : Int) (k : Int) x5)
    rw [show decide ((k : Int) < (x2.length : Int)) = false from decide_eq_false (by omega)]
    exact Ev.neg rfl (Ev.ofSome h)
  | cons e rest ih =>
    intro k x1 x5 r hr h
    obtain ⟨hk, hx, hr2⟩ := drop_cons (d := (Ty.dflt TyTry)) hr
    have hw := wrap_succ hl hk
    have ih2 : ∀ (z1 : (List Int)) (z5 : DThrottle) (r : (List Int)), P_impl_RunTries_0_6 rest z1 z5 = some r → Ev (fun n => Lo_impl_RunTries_0_6 n z1 x2 (x2.length : Int) (IntKind.wrap .i64 ((k : Int) + 1)) z5) r := by
      intro z1 z5 r h; rw [hw]; exact ih (k + 1) z1 z5 r hr2 h
    rw [P_impl_RunTries_0_6] at h
    refine Ev.step ?_ (fun n => Lo_impl_RunTries_0_6_eq n x1 x2 (x2.length : Int) (k : Int) x5)
    rw [show decide ((k : Int) < (x2.length : Int)) = true from decide_eq_true (by omega), inB_nat2 hk, hx]
    exact Ev.pos rfl (Ev.pos rfl (Ev.ofBind h fun y1 h => (Ev.ofBif h (fun h => (Ev.ofBif h (fun h => (ih2 _ _ _ h)) (fun h => (Ev.ofNone h)))) (fun h => (Ev.ofBif h (fun h => (ih2 _ _ _ h)) (fun h => (Ev.ofNone h)))))))
theorem So_impl_RunTries (a0 : (List DTry)) {r : (List Int)} (h : P_impl_RunTries a0 = some r) : Ev (fun n => Fo_impl_RunTries n a0) r := by
  rw [P_impl_RunTries] at h
  refine Ev.of_eq ?_ (fun n => Fo_impl_RunTries_eq n a0)
  exact (Ev.ofBif h (fun h => (Ev.ofSome h)) (fun h => (Ev.ofLen h fun hl h => So_impl_RunTries_0_6 hl _ (0 : Nat) _ _ _ rfl h)))
theorem hcso_impl_RunTries : ∀ x ∈ cso_impl_RunTries, CtrOk Try.prog x := (conOf_cons ok_impl_TryOnce conOf_nil)
theorem oko_impl_RunTries : CtrOk Try.prog (co_impl_RunTries) := by
  refine ctr_of_own (by kernel_rfl) (by kernel_rfl : Try.prog.funcs[14]? = some Try.f14) (code := Try.f14.body.getD .skip) (by kernel_rfl) (by kernel_rfl) (A := Ao_impl_RunTries) (I := Ino_impl_RunTries) (hcso_impl_RunTries) ?_
  rintro ⟨a0, u⟩ y hy
  exact (So_impl_RunTries a0 hy).get

noncomputable def cd_impl_RunTries : Ctr := deepOf 14 [(.list TyTry)] [(.list I64)] fun x => P_impl_RunTries x.1
theorem okd_impl_RunTries : CtrOk Try.prog (cd_impl_RunTries) := deep_of_own (by kernel_rfl) (by kernel_rfl) oko_impl_RunTries

/-! ## laws.markTryS (17) -/
theorem hot_laws_markTryS : HotOk Try.prog 17 (.list TyTry) := hot_list (tl := 32) (by kernel_rfl : Try.prog.funcs[17]? = some Try.f17) (c := Try.f17.body.getD .skip) (by kernel_rfl) (by kernel_rfl) (gt := none) (hs := []) text_none hots_nil (by kernel_rfl)
noncomputable def ch_laws_markTryS : Ctr := hotOf 17 (.list TyTry) fun x => markC (.list TyTry) x.1 x.2.1
theorem okh_laws_markTryS : CtrOk Try.prog ch_laws_markTryS := hot_ctr (by kernel_rfl) (by kernel_rfl) hot_laws_markTryS

/-! ## laws.markIntS (18) -/
theorem hot_laws_markIntS : HotOk Try.prog 18 (.list I64) := hot_list (tl := 30) (by kernel_rfl : Try.prog.funcs[18]? = some Try.f18) (c := Try.f18.body.getD .skip) (by kernel_rfl) (by kernel_rfl) (gt := none) (hs := []) text_none hots_nil (by kernel_rfl)
noncomputable def ch_laws_markIntS : Ctr := hotOf 18 (.list I64) fun x => markC (.list I64) x.1 x.2.1
theorem okh_laws_markIntS : CtrOk Try.prog ch_laws_markIntS := hot_ctr (by kernel_rfl) (by kernel_rfl) hot_laws_markIntS

/-! ## laws.heldIntS (19) -/
noncomputable def P_laws_heldIntS_0_2 : List Int → Int → Option Int
  | [], x2 =>
      some x2
  | e :: rest, x2 =>
      bif !decide (e = x2) then
        some (-1)
      else
        P_laws_heldIntS_0_2 rest (IntKind.wrap .i64 (x2 + 1))
noncomputable def P_laws_heldIntS (a0 : (List Int)) (a1 : Int) : Option Int :=
  lenOk a0 (P_laws_heldIntS_0_2 a0 a1)
noncomputable def c_laws_heldIntS : Ctr := ⟨19, [(.list I64), I64], [I64], fun x => P_laws_heldIntS x.1 x.2.1⟩
def A_laws_heldIntS : List (List Nat × Ann) := [([0, 2], [.keep 0 0, .keep 0 1, .keep 0 5])]
def In_laws_heldIntS : List (List Nat × Nat) := []
noncomputable def cs_laws_heldIntS : List Ctr := []
noncomputable def F_laws_heldIntS (n : Nat) (a0 : (List Int)) (a1 : Int) : Option Int := run Try.prog A_laws_heldIntS In_laws_heldIntS (conOf cs_laws_heldIntS) Try.f19 (Try.f19.body.getD .skip) (packT [I64]) n (argsV [(.list I64), I64] (a0, a1, ()))
noncomputable abbrev L_laws_heldIntS_0_2 (n : Nat) (x1 : (List Int)) (x2 : Int) (x3 : Int) : Option Int := lam Try.prog A_laws_heldIntS In_laws_heldIntS (conOf cs_laws_heldIntS) Try.f19 (Try.f19.body.getD .skip) (packT [I64]) n [0, 2] [.d (.list I64) x1, .d I64 x2, .d I64 x3]
theorem F_laws_heldIntS_eq (n : Nat) (a0 : (List Int)) (a1 : Int) : F_laws_heldIntS n a0 a1 =
    L_laws_heldIntS_0_2 n a0 a1 0 := by kernel_rfl
theorem L_laws_heldIntS_0_2_eq (n : Nat) (x1 : (List Int)) (x2 : Int) (x3 : Int) : L_laws_heldIntS_0_2 (n + 1) x1 x2 x3 =
    bif decide (x3 < (x1.length : Int)) then
      bif inB x3 x1.length then
        bif !decide (rd x1 x3 (Ty.dflt I64) = x2) then
          some (-1)
        else
          L_laws_heldIntS_0_2 n x1 (IntKind.wrap .i64 (x2 + 1)) (IntKind.wrap .i64 (x3 + 1))
      else none
    else
      some x2 := by kernel_rfl
theorem S_laws_heldIntS_0_2 {x1 : (List Int)} (hl : x1.length ≤ maxLen) : ∀ (rest : List Int) (k : Nat) (x2 : Int) (r : Int), rest = x1.drop k → P_laws_heldIntS_0_2 rest x2 = some r → Ev (fun n => L_laws_heldIntS_0_2 n x1 x2 (k : Int)) r := by
  intro rest
  induction rest with
  | nil =>
    intro k x2 r hr h
    have hk := drop_nil hr
    rw [P_laws_heldIntS_0_2] at h
    refine Ev.step ?_ (fun n => L_laws_heldIntS_0_2_eq n x1 x2 (k : Int))
    rw [show decide ((k : Int) < (x1.length : Int)) = false from decide_eq_false (by omega)]
    exact Ev.neg rfl (Ev.ofSome h)
  | cons e rest ih =>
    intro k x2 r hr h
    obtain ⟨hk, hx, hr2⟩ := drop_cons (d := (Ty.dflt I64)) hr
    have hw := wrap_succ hl hk
    have ih2 : ∀ (z2 : Int) (r : Int), P_laws_heldIntS_0_2 rest z2 = some r → Ev (fun n => L_laws_heldIntS_0_2 n x1 z2 (IntKind.wrap .i64 ((k : Int) + 1))) r := by
      intro z2 r h; rw [hw]; exact ih (k + 1) z2 r hr2 h
    rw [P_laws_heldIntS_0_2] at h
    refine Ev.step ?_ (fun n => L_laws_heldIntS_0_2_eq n x1 x2 (k : Int))
    rw [show decide ((k : Int) < (x1.length : Int)) = true from decide_eq_true (by omega), inB_nat2 hk, hx]
    exact Ev.pos rfl (Ev.pos rfl (Ev.ofBif h (fun h => (Ev.ofSome h)) (fun h => (ih2 _ _ h))))
theorem S_laws_heldIntS (a0 : (List Int)) (a1 : Int) {r : Int} (h : P_laws_heldIntS a0 a1 = some r) : Ev (fun n => F_laws_heldIntS n a0 a1) r := by
  rw [P_laws_heldIntS] at h
  refine Ev.of_eq ?_ (fun n => F_laws_heldIntS_eq n a0 a1)
  exact (Ev.ofLen h fun hl h => S_laws_heldIntS_0_2 hl _ (0 : Nat) _ _ rfl h)
theorem hcs_laws_heldIntS : ∀ x ∈ cs_laws_heldIntS, CtrOk Try.prog x := conOf_nil
theorem ok_laws_heldIntS : CtrOk Try.prog (c_laws_heldIntS) := by
  refine ctr_of_run (c := c_laws_heldIntS) (by kernel_rfl) (by kernel_rfl : Try.prog.funcs[19]? = some Try.f19) (code := Try.f19.body.getD .skip) (by kernel_rfl) (by kernel_rfl) (by kernel_rfl) (A := A_laws_heldIntS) (I := In_laws_heldIntS) (hcs_laws_heldIntS) ?_
  rintro ⟨a0, a1, u⟩ y hy
  exact (S_laws_heldIntS a0 a1 hy).get

/-! ## laws.szTryS (11) -/
noncomputable def c_laws_szTryS : Ctr := ⟨11, [(.list TyTry), I64], [I64], fun x => szC (.list TyTry) x.1 x.2.1⟩
def A_laws_szTryS : List (List Nat × Ann) := []
def In_laws_szTryS : List (List Nat × Nat) := []
noncomputable def cs_laws_szTryS : List Ctr := []
noncomputable def F_laws_szTryS (n : Nat) (a0 : (List DTry)) (a1 : Int) : Option Int := run Try.prog A_laws_szTryS In_laws_szTryS (conOf cs_laws_szTryS) Try.f11 (Try.f11.body.getD .skip) (packT [I64]) n (argsV [(.list TyTry), I64] (a0, a1, ()))
theorem F_laws_szTryS_eq (n : Nat) (a0 : (List DTry)) (a1 : Int) : F_laws_szTryS n a0 a1 =
    bif decide (IntKind.wrap .i64 (a1 - (a0.length : Int)) < 0) then
      some (-1)
    else
      some (IntKind.wrap .i64 (a1 - (a0.length : Int))) := by kernel_rfl
theorem mk_laws_szTryS (hcs : ∀ x ∈ cs_laws_szTryS, CtrOk Try.prog x) (h : ∀ (a0 : (List DTry)) (a1 : Int) y, szC (.list TyTry) a0 a1 = some y → ∃ n, F_laws_szTryS n a0 a1 = some y) : CtrOk Try.prog c_laws_szTryS := by
  refine ctr_of_run (c := c_laws_szTryS) (by kernel_rfl) (by kernel_rfl : Try.prog.funcs[11]? = some Try.f11) (code := Try.f11.body.getD .skip) (by kernel_rfl) (by kernel_rfl) (by kernel_rfl) (A := A_laws_szTryS) (I := In_laws_szTryS) hcs ?_
  rintro ⟨a0, a1, u⟩ y hy
  exact h a0 a1 y hy

theorem hcs_laws_szTryS : ∀ x ∈ cs_laws_szTryS, CtrOk Try.prog x := conOf_nil
theorem ok_laws_szTryS : CtrOk Try.prog c_laws_szTryS := mk_laws_szTryS hcs_laws_szTryS fun a0 a1 y hy => by
  exact ⟨0, (F_laws_szTryS_eq 0 a0 a1).trans (szS_flat (t := TyTry) (fun _ => rfl) hy)⟩
/-! ## laws.eqIntS (15) -/
noncomputable def c_laws_eqIntS : Ctr := ⟨15, [(.list I64), (.list I64)], [.bool], fun x => eqC (.list I64) x.1 x.2.1⟩
def A_laws_eqIntS : List (List Nat × Ann) := [([0, 4], [.keep 0 0, .keep 0 1, .keep 0 5])]
def In_laws_eqIntS : List (List Nat × Nat) := []
noncomputable def cs_laws_eqIntS : List Ctr := []
noncomputable def F_laws_eqIntS (n : Nat) (a0 : (List Int)) (a1 : (List Int)) : Option Bool := run Try.prog A_laws_eqIntS In_laws_eqIntS (conOf cs_laws_eqIntS) Try.f15 (Try.f15.body.getD .skip) (packT [.bool]) n (argsV [(.list I64), (.list I64)] (a0, a1, ()))
noncomputable abbrev L_laws_eqIntS_0_4 (n : Nat) (x1 : (List Int)) (x2 : (List Int)) (x3 : Int) : Option Bool := lam Try.prog A_laws_eqIntS In_laws_eqIntS (conOf cs_laws_eqIntS) Try.f15 (Try.f15.body.getD .skip) (packT [.bool]) n [0, 4] [.d (.list I64) x1, .d (.list I64) x2, .d I64 x3]
theorem F_laws_eqIntS_eq (n : Nat) (a0 : (List Int)) (a1 : (List Int)) : F_laws_eqIntS n a0 a1 =
    bif !decide ((a0.length : Int) = (a1.length : Int)) then
      some false
    else
      L_laws_eqIntS_0_4 n a0 a1 0 := by kernel_rfl
theorem L_laws_eqIntS_0_4_eq (n : Nat) (x1 : (List Int)) (x2 : (List Int)) (x3 : Int) : L_laws_eqIntS_0_4 (n + 1) x1 x2 x3 =
    bif decide (x3 < (x1.length : Int)) then
      bif inB x3 x1.length then
        bif inB x3 x2.length then
          bif !decide (rd x1 x3 (Ty.dflt I64) = rd x2 x3 (Ty.dflt I64)) then
            some false
          else
            L_laws_eqIntS_0_4 n x1 x2 (IntKind.wrap .i64 (x3 + 1))
        else none
      else none
    else
      some true := by kernel_rfl
theorem mk_laws_eqIntS (hcs : ∀ x ∈ cs_laws_eqIntS, CtrOk Try.prog x) (h : ∀ (a0 : (List Int)) (a1 : (List Int)) y, eqC (.list I64) a0 a1 = some y → ∃ n, F_laws_eqIntS n a0 a1 = some y) : CtrOk Try.prog c_laws_eqIntS := by
  refine ctr_of_run (c := c_laws_eqIntS) (by kernel_rfl) (by kernel_rfl : Try.prog.funcs[15]? = some Try.f15) (code := Try.f15.body.getD .skip) (by kernel_rfl) (by kernel_rfl) (by kernel_rfl) (A := A_laws_eqIntS) (I := In_laws_eqIntS) hcs ?_
  rintro ⟨a0, a1, u⟩ y hy
  exact h a0 a1 y hy

theorem hcs_laws_eqIntS : ∀ x ∈ cs_laws_eqIntS, CtrOk Try.prog x := conOf_nil
theorem ok_laws_eqIntS : CtrOk Try.prog c_laws_eqIntS := mk_laws_eqIntS hcs_laws_eqIntS fun a0 a1 y hy => by
  obtain ⟨n, hn⟩ := eqS_ok (t := I64) (body := fun x y K => bif !decide (x = y) then some false else K ()) (fun x K h => by simp) (fun n xs ys i => L_laws_eqIntS_0_4_eq n xs ys i) hy
  exact ⟨n, (F_laws_eqIntS_eq n a0 a1).trans hn⟩
/-! ## laws.eqTry (25) -/
noncomputable def c_laws_eqTry : Ctr := ⟨25, [TyTry, TyTry], [.bool], fun x => eqC TyTry x.1 x.2.1⟩
def A_laws_eqTry : List (List Nat × Ann) := []
def In_laws_eqTry : List (List Nat × Nat) := []
noncomputable def cs_laws_eqTry : List Ctr := []
noncomputable def F_laws_eqTry (n : Nat) (a0 : DTry) (a1 : DTry) : Option Bool := run Try.prog A_laws_eqTry In_laws_eqTry (conOf cs_laws_eqTry) Try.f25 (Try.f25.body.getD .skip) (packT [.bool]) n (argsV [TyTry, TyTry] (a0, a1, ()))
theorem F_laws_eqTry_eq (n : Nat) (a0 : DTry) (a1 : DTry) : F_laws_eqTry n a0 a1 =
    bif !decide (a0.1 = a1.1) then
      some false
    else
      bif a0.2 != a1.2 then
        some false
      else
        some true := by kernel_rfl
theorem mk_laws_eqTry (hcs : ∀ x ∈ cs_laws_eqTry, CtrOk Try.prog x) (h : ∀ (a0 : DTry) (a1 : DTry) y, eqC TyTry a0 a1 = some y → ∃ n, F_laws_eqTry n a0 a1 = some y) : CtrOk Try.prog c_laws_eqTry := by
  refine ctr_of_run (c := c_laws_eqTry) (by kernel_rfl) (by kernel_rfl : Try.prog.funcs[25]? = some Try.f25) (code := Try.f25.body.getD .skip) (by kernel_rfl) (by kernel_rfl) (by kernel_rfl) (A := A_laws_eqTry) (I := In_laws_eqTry) hcs ?_
  rintro ⟨a0, a1, u⟩ y hy
  exact h a0 a1 y hy

theorem hcs_laws_eqTry : ∀ x ∈ cs_laws_eqTry, CtrOk Try.prog x := conOf_nil
theorem ok_laws_eqTry : CtrOk Try.prog c_laws_eqTry := mk_laws_eqTry hcs_laws_eqTry fun a0 a1 y hy => by
  obtain ⟨rfl, hw, rfl⟩ := eqC_inv hy
  have hw2 : wfD I64 a0.1 ∧ wfD .bool a0.2 := hw
  refine ⟨0, ?_⟩
  rw [F_laws_eqTry_eq]
  simp []
/-! ## laws.eqTryS (16) -/
noncomputable def c_laws_eqTryS : Ctr := ⟨16, [(.list TyTry), (.list TyTry)], [.bool], fun x => eqC (.list TyTry) x.1 x.2.1⟩
def A_laws_eqTryS : List (List Nat × Ann) := [([0, 4], [.keep 0 0, .keep 0 1, .keep 0 5])]
def In_laws_eqTryS : List (List Nat × Nat) := []
noncomputable def cs_laws_eqTryS : List Ctr := [c_laws_eqTry]
noncomputable def F_laws_eqTryS (n : Nat) (a0 : (List DTry)) (a1 : (List DTry)) : Option Bool := run Try.prog A_laws_eqTryS In_laws_eqTryS (conOf cs_laws_eqTryS) Try.f16 (Try.f16.body.getD .skip) (packT [.bool]) n (argsV [(.list TyTry), (.list TyTry)] (a0, a1, ()))
noncomputable abbrev L_laws_eqTryS_0_4 (n : Nat) (x1 : (List DTry)) (x2 : (List DTry)) (x3 : Int) : Option Bool := lam Try.prog A_laws_eqTryS In_laws_eqTryS (conOf cs_laws_eqTryS) Try.f16 (Try.f16.body.getD .skip) (packT [.bool]) n [0, 4] [.d (.list TyTry) x1, .d (.list TyTry) x2, .d I64 x3]
theorem F_laws_eqTryS_eq (n : Nat) (a0 : (List DTry)) (a1 : (List DTry)) : F_laws_eqTryS n a0 a1 =
    bif !decide ((a0.length : Int) = (a1.length : Int)) then
      some false
    else
      L_laws_eqTryS_0_4 n a0 a1 0 := by kernel_rfl
theorem L_laws_eqTryS_0_4_eq (n : Nat) (x1 : (List DTry)) (x2 : (List DTry)) (x3 : Int) : L_laws_eqTryS_0_4 (n + 1) x1 x2 x3 =
    bif decide (x3 < (x1.length : Int)) then
      bif inB x3 x1.length then
        bif inB x3 x2.length then
          Option.bind (eqC TyTry (rd x1 x3 (Ty.dflt TyTry)) (rd x2 x3 (Ty.dflt TyTry))) fun (y1 : Bool) =>
          bif !(y1) then
            some false
          else
            L_laws_eqTryS_0_4 n x1 x2 (IntKind.wrap .i64 (x3 + 1))
        else none
      else none
    else
      some true := by kernel_rfl
theorem mk_laws_eqTryS (hcs : ∀ x ∈ cs_laws_eqTryS, CtrOk Try.prog x) (h : ∀ (a0 : (List DTry)) (a1 : (List DTry)) y, eqC (.list TyTry) a0 a1 = some y → ∃ n, F_laws_eqTryS n a0 a1 = some y) : CtrOk Try.prog c_laws_eqTryS := by
  refine ctr_of_run (c := c_laws_eqTryS) (by kernel_rfl) (by kernel_rfl : Try.prog.funcs[16]? = some Try.f16) (code := Try.f16.body.getD .skip) (by kernel_rfl) (by kernel_rfl) (by kernel_rfl) (A := A_laws_eqTryS) (I := In_laws_eqTryS) hcs ?_
  rintro ⟨a0, a1, u⟩ y hy
  exact h a0 a1 y hy

theorem hcs_laws_eqTryS : ∀ x ∈ cs_laws_eqTryS, CtrOk Try.prog x := (conOf_cons ok_laws_eqTry conOf_nil)
theorem ok_laws_eqTryS : CtrOk Try.prog c_laws_eqTryS := mk_laws_eqTryS hcs_laws_eqTryS fun a0 a1 y hy => by
  obtain ⟨n, hn⟩ := eqS_ok (t := TyTry) (body := fun x y K => Option.bind (eqC TyTry x y) fun b => bif !b then some false else K ()) (fun x K h => by simp only [eqC_some h, Option.bind_some, Bool.not_true, cond_false]) (fun n xs ys i => L_laws_eqTryS_0_4_eq n xs ys i) hy
  exact ⟨n, (F_laws_eqTryS_eq n a0 a1).trans hn⟩
/-! ## laws.FnExactRunTries (4) -/
noncomputable def P_laws_FnExactRunTries_1_16 (x1 : (List DTry)) (x2 : (List Int)) (x3 : (List Int)) : Option Bool :=
  Option.bind (markC (.list I64) x3 1) fun (y11 : (Int × (List Int))) =>
  Option.bind (P_laws_heldIntS y11.2 1) fun (y12 : Int) =>
  bif decide (y12 < 0) then
    some false
  else
    bif !decide (y12 = y11.1) then
      some false
    else
      Option.bind (toC (.list TyTry) x1) fun (y13 : (List DTry)) =>
      Option.bind (P_impl_RunTries y13) fun (y14 : (List Int)) =>
      Option.bind (eqC (.list I64) y14 x2) fun (y15 : Bool) =>
      bif !(y15) then
        some false
      else
        Option.bind (P_laws_heldIntS y11.2 1) fun (y16 : Int) =>
        bif decide (y16 < 0) then
          some false
        else
          bif !decide (y16 = y11.1) then
            some false
          else
            some true
noncomputable def P_laws_FnExactRunTries (a0 : (List DTry)) : Option Bool :=
  Option.bind (szC (.list TyTry) a0 1048576) fun (y1 : Int) =>
  bif decide (y1 < 0) then
    some true
  else
    Option.bind (toC (.list TyTry) a0) fun (y2 : (List DTry)) =>
    Option.bind (P_spec_RunTries y2) fun (y3 : (List Int)) =>
    Option.bind (toC (.list TyTry) a0) fun (y4 : (List DTry)) =>
    Option.bind (P_impl_RunTries y4) fun (y5 : (List Int)) =>
    Option.bind (eqC (.list I64) y5 y3) fun (y6 : Bool) =>
    bif !(y6) then
      some false
    else
      Option.bind (toC (.list TyTry) a0) fun (y7 : (List DTry)) =>
      Option.bind (eqC (.list TyTry) y4 y7) fun (y8 : Bool) =>
      bif !(y8) then
        some false
      else
        Option.bind (markC (.list TyTry) y4 1) fun (y9 : (Int × (List DTry))) =>
        bif decide (y9.1 < 0) then
          some false
        else
          Option.bind (eqC (.list I64) y5 y3) fun (y10 : Bool) =>
          bif !(y10) then
            some false
          else
            P_laws_FnExactRunTries_1_16 a0 y3 y5
def A_laws_FnExactRunTries : List (List Nat × Ann) := [([1, 16], [.keep 0 0, .keep 0 4, .drb 0 6 I64])]
def In_laws_FnExactRunTries : List (List Nat × Nat) := [([6001], 2000013), ([7001], 2000014), ([13002], 3000017), ([17002], 3000018)]
noncomputable def cs_laws_FnExactRunTries : List Ctr := [c_laws_szTryS, c_laws_toTryS, c_spec_RunTries, cd_laws_toTryS, cd_impl_RunTries, c_laws_eqIntS, c_laws_eqTryS, ch_laws_markTryS, ch_laws_markIntS, c_laws_heldIntS, c_impl_RunTries]
noncomputable def F_laws_FnExactRunTries (n : Nat) (a0 : (List DTry)) : Option Bool := run Try.prog A_laws_FnExactRunTries In_laws_FnExactRunTries (conOf cs_laws_FnExactRunTries) Try.f4 (Try.f4.body.getD .skip) (packT [.bool]) n (argsV [(.list TyTry)] (a0, ()))
noncomputable abbrev L_laws_FnExactRunTries_1_16 (n : Nat) (x1 : (List DTry)) (x2 : (List Int)) (x3 : (List Int)) : Option Bool := lam Try.prog A_laws_FnExactRunTries In_laws_FnExactRunTries (conOf cs_laws_FnExactRunTries) Try.f4 (Try.f4.body.getD .skip) (packT [.bool]) n [1, 16] [.d (.list TyTry) x1, .d (.list I64) x2, .d (.list I64) x3]
theorem F_laws_FnExactRunTries_eq (n : Nat) (a0 : (List DTry)) : F_laws_FnExactRunTries n a0 =
    Option.bind (szC (.list TyTry) a0 1048576) fun (y1 : Int) =>
    bif decide (y1 < 0) then
      some true
    else
      Option.bind (toC (.list TyTry) a0) fun (y2 : (List DTry)) =>
      Option.bind (P_spec_RunTries y2) fun (y3 : (List Int)) =>
      Option.bind (toC (.list TyTry) a0) fun (y4 : (List DTry)) =>
      Option.bind (P_impl_RunTries y4) fun (y5 : (List Int)) =>
      Option.bind (eqC (.list I64) y5 y3) fun (y6 : Bool) =>
      bif !(y6) then
        some false
      else
        Option.bind (toC (.list TyTry) a0) fun (y7 : (List DTry)) =>
        Option.bind (eqC (.list TyTry) y4 y7) fun (y8 : Bool) =>
        bif !(y8) then
          some false
        else
          Option.bind (markC (.list TyTry) y4 1) fun (y9 : (Int × (List DTry))) =>
          bif decide (y9.1 < 0) then
            some false
          else
            Option.bind (eqC (.list I64) y5 y3) fun (y10 : Bool) =>
            bif !(y10) then
              some false
            else
              L_laws_FnExactRunTries_1_16 n a0 y3 y5 := by kernel_rfl
theorem L_laws_FnExactRunTries_1_16_eq (n : Nat) (x1 : (List DTry)) (x2 : (List Int)) (x3 : (List Int)) : L_laws_FnExactRunTries_1_16 (n + 1) x1 x2 x3 =
    Option.bind (markC (.list I64) x3 1) fun (y11 : (Int × (List Int))) =>
    Option.bind (P_laws_heldIntS y11.2 1) fun (y12 : Int) =>
    bif decide (y12 < 0) then
      some false
    else
      bif !decide (y12 = y11.1) then
        some false
      else
        Option.bind (toC (.list TyTry) x1) fun (y13 : (List DTry)) =>
        Option.bind (P_impl_RunTries y13) fun (y14 : (List Int)) =>
        Option.bind (eqC (.list I64) y14 x2) fun (y15 : Bool) =>
        bif !(y15) then
          some false
        else
          Option.bind (P_laws_heldIntS y11.2 1) fun (y16 : Int) =>
          bif decide (y16 < 0) then
            some false
          else
            bif !decide (y16 = y11.1) then
              some false
            else
              some true := by kernel_rfl
theorem S_laws_FnExactRunTries_1_16 {x1 : (List DTry)} {x2 : (List Int)} {x3 : (List Int)} {r : Bool} (h : P_laws_FnExactRunTries_1_16 x1 x2 x3 = some r) : Ev (fun n => L_laws_FnExactRunTries_1_16 n x1 x2 x3) r := by
  rw [P_laws_FnExactRunTries_1_16] at h
  refine Ev.step ?_ (fun n => L_laws_FnExactRunTries_1_16_eq n x1 x2 x3)
  exact (Ev.ofBind h fun y11 h => (Ev.ofBind h fun y12 h => (Ev.ofBif h (fun h => (Ev.ofSome h)) (fun h => (Ev.ofBif h (fun h => (Ev.ofSome h)) (fun h => (Ev.ofBind h fun y13 h => (Ev.ofBind h fun y14 h => (Ev.ofBind h fun y15 h => (Ev.ofBif h (fun h => (Ev.ofSome h)) (fun h => (Ev.ofBind h fun y16 h => (Ev.ofBif h (fun h => (Ev.ofSome h)) (fun h => (Ev.ofBif h (fun h => (Ev.ofSome h)) (fun h => (Ev.ofSome h)))))))))))))))))
theorem S_laws_FnExactRunTries (a0 : (List DTry)) {r : Bool} (h : P_laws_FnExactRunTries a0 = some r) : Ev (fun n => F_laws_FnExactRunTries n a0) r := by
  rw [P_laws_FnExactRunTries] at h
  refine Ev.of_eq ?_ (fun n => F_laws_FnExactRunTries_eq n a0)
  exact (Ev.ofBind h fun y1 h => (Ev.ofBif h (fun h => (Ev.ofSome h)) (fun h => (Ev.ofBind h fun y2 h => (Ev.ofBind h fun y3 h => (Ev.ofBind h fun y4 h => (Ev.ofBind h fun y5 h => (Ev.ofBind h fun y6 h => (Ev.ofBif h (fun h => (Ev.ofSome h)) (fun h => (Ev.ofBind h fun y7 h => (Ev.ofBind h fun y8 h => (Ev.ofBif h (fun h => (Ev.ofSome h)) (fun h => (Ev.ofBind h fun y9 h => (Ev.ofBif h (fun h => (Ev.ofSome h)) (fun h => (Ev.ofBind h fun y10 h => (Ev.ofBif h (fun h => (Ev.ofSome h)) (fun h => (S_laws_FnExactRunTries_1_16 h)))))))))))))))))))))

end Go.Ab
