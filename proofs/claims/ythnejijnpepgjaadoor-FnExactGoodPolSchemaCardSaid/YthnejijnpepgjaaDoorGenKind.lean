/- generated -/
import Derived.Test.YthnejijnpepgjaaDoorGenKinda
import Derived.Test.YthnejijnpepgjaaDoorProg
import Derived.KernelRfl
namespace Go.Ab
open Go.Proofs
set_option maxRecDepth 20000
/-! ## impl.GoodPolSchema (14) -/
noncomputable def P_impl_GoodPolSchema_0_10 (g0 : (List ((List Int) × Int))) (x4 : DPolSchema) : List DActionType → Nat → Option Bool
  | [], k =>
      some true
  | e :: rest, k =>
      Option.bind (P_impl_ygoodId ((e).1)) fun (y6 : Bool) =>
      bif !(y6) then
        some false
      else
        bif decide ((0 : Int) < (k : Int)) then
          bif inB (IntKind.wrap .i64 ((k : Int) - 1)) x4.2.length then
            bif !lessI ((rd x4.2 (IntKind.wrap .i64 ((k : Int) - 1)) (Ty.dflt TyActionType)).1) ((e).1) then
              some false
            else
              bif decide (((((e).2).1).length : Int) = 0) then
                some false
              else
                bif decide ((((((e).2).2).1).length : Int) = 0) then
                  some false
                else
                  Option.bind (P_impl_PolSchema_ythingNames x4 (((e).2).1)) fun (y7 : Bool) =>
                  bif !(y7) then
                    some false
                  else
                    Option.bind (P_impl_PolSchema_ythingNames x4 ((((e).2).2).1)) fun (y8 : Bool) =>
                    bif !(y8) then
                      some false
                    else
                      Option.bind (P_impl_PolSchema_ygoodAttrs g0 x4 ((((e).2).2).2)) fun (y9 : Bool) =>
                      bif !(y9) then
                        some false
                      else
                        P_impl_GoodPolSchema_0_10 g0 x4 rest (k + 1)
          else none
        else
          bif decide (((((e).2).1).length : Int) = 0) then
            some false
          else
            bif decide ((((((e).2).2).1).length : Int) = 0) then
              some false
            else
              Option.bind (P_impl_PolSchema_ythingNames x4 (((e).2).1)) fun (y10 : Bool) =>
              bif !(y10) then
                some false
              else
                Option.bind (P_impl_PolSchema_ythingNames x4 ((((e).2).2).1)) fun (y11 : Bool) =>
                bif !(y11) then
                  some false
                else
                  Option.bind (P_impl_PolSchema_ygoodAttrs g0 x4 ((((e).2).2).2)) fun (y12 : Bool) =>
                  bif !(y12) then
                    some false
                  else
                    P_impl_GoodPolSchema_0_10 g0 x4 rest (k + 1)
noncomputable def P_impl_GoodPolSchema_0_4 (g0 : (List ((List Int) × Int))) (x4 : DPolSchema) : List DThingType → Nat → Option Bool
  | [], k =>
      lenOk x4.2 (P_impl_GoodPolSchema_0_10 g0 x4 x4.2 0)
  | e :: rest, k =>
      Option.bind (P_impl_GoodName ((e).1)) fun (y1 : Bool) =>
      bif !(y1) then
        some false
      else
        bif decide ((e).1 = ([65, 99, 116, 105, 111, 110] : List Int)) then
          some false
        else
          bif decide ((0 : Int) < (k : Int)) then
            bif inB (IntKind.wrap .i64 ((k : Int) - 1)) x4.1.length then
              bif !lessI ((rd x4.1 (IntKind.wrap .i64 ((k : Int) - 1)) (Ty.dflt TyThingType)).1) ((e).1) then
                some false
              else
                Option.bind (P_impl_PolSchema_ythingNames x4 (((e).2).1)) fun (y2 : Bool) =>
                bif !(y2) then
                  some false
                else
                  Option.bind (P_impl_PolSchema_ygoodAttrs g0 x4 (((e).2).2)) fun (y3 : Bool) =>
                  bif !(y3) then
                    some false
                  else
                    P_impl_GoodPolSchema_0_4 g0 x4 rest (k + 1)
            else none
          else
            Option.bind (P_impl_PolSchema_ythingNames x4 (((e).2).1)) fun (y4 : Bool) =>
            bif !(y4) then
              some false
            else
              Option.bind (P_impl_PolSchema_ygoodAttrs g0 x4 (((e).2).2)) fun (y5 : Bool) =>
              bif !(y5) then
                some false
              else
                P_impl_GoodPolSchema_0_4 g0 x4 rest (k + 1)
noncomputable def P_impl_GoodPolSchema (g0 : (List ((List Int) × Int))) (a0 : DPolSchema) : Option Bool :=
  bif decide ((20 : Int) < (a0.1.length : Int)) then
    some false
  else
    bif decide ((20 : Int) < (a0.2.length : Int)) then
      some false
    else
      lenOk a0.1 (P_impl_GoodPolSchema_0_4 g0 a0 a0.1 0)
noncomputable def c_impl_GoodPolSchema (g0 : (List ((List Int) × Int))) : Ctr := ⟨14, [TyPolSchema], [.bool], fun x => P_impl_GoodPolSchema g0 x.1⟩
def A_impl_GoodPolSchema : List (List Nat × Ann) := [([0, 4], [.keep 0 1, .keep 0 18, .keep 0 19, .keep 0 20, .boxd 0 1 TyPolSchema]), ([0, 10], [.keep 0 1, .keep 0 66, .keep 0 67, .keep 0 68, .boxd 0 1 TyPolSchema])]
def In_impl_GoodPolSchema : List (List Nat × Nat) := []
noncomputable def cs_impl_GoodPolSchema (g0 : (List ((List Int) × Int))) : List Ctr := [c_impl_GoodName, c_impl_PolSchema_ythingNames, (c_impl_PolSchema_ygoodAttrs g0), c_impl_ygoodId]
noncomputable def F_impl_GoodPolSchema (g0 : (List ((List Int) × Int))) (n : Nat) (a0 : DPolSchema) : Option Bool := runE Tryd.prog (glOf [(0, explode (.map .str I64) g0)]) A_impl_GoodPolSchema In_impl_GoodPolSchema (conOf (cs_impl_GoodPolSchema g0)) Tryd.f14 (Tryd.f14.body.getD .skip) (endD Tryd.prog Tryd.f14 (packT [.bool])) n (argsV [TyPolSchema] (a0, ()))
noncomputable abbrev L_impl_GoodPolSchema_0_4 (g0 : (List ((List Int) × Int))) (n : Nat) (x1 : (List DThingType)) (x2 : Int) (x3 : Int) (x4 : DPolSchema) : Option Bool := lamE Tryd.prog (glOf [(0, explode (.map .str I64) g0)]) A_impl_GoodPolSchema In_impl_GoodPolSchema (conOf (cs_impl_GoodPolSchema g0)) Tryd.f14 (Tryd.f14.body.getD .skip) (endD Tryd.prog Tryd.f14 (packT [.bool])) n [0, 4] [.ptr 0 1 0, .d (.list TyThingType) x1, .d I64 x2, .d I64 x3, .agg (explode TyPolSchema x4)]
noncomputable abbrev L_impl_GoodPolSchema_0_10 (g0 : (List ((List Int) × Int))) (n : Nat) (x1 : (List DActionType)) (x2 : Int) (x3 : Int) (x4 : DPolSchema) : Option Bool := lamE Tryd.prog (glOf [(0, explode (.map .str I64) g0)]) A_impl_GoodPolSchema In_impl_GoodPolSchema (conOf (cs_impl_GoodPolSchema g0)) Tryd.f14 (Tryd.f14.body.getD .skip) (endD Tryd.prog Tryd.f14 (packT [.bool])) n [0, 10] [.ptr 0 1 0, .d (.list TyActionType) x1, .d I64 x2, .d I64 x3, .agg (explode TyPolSchema x4)]
theorem F_impl_GoodPolSchema_eq (g0 : (List ((List Int) × Int))) (n : Nat) (a0 : DPolSchema) : F_impl_GoodPolSchema g0 n a0 =
    bif decide ((20 : Int) < (a0.1.length : Int)) then
      some false
    else
      bif decide ((20 : Int) < (a0.2.length : Int)) then
        some false
      else
        L_impl_GoodPolSchema_0_4 g0 n a0.1 (a0.1.length : Int) 0 a0 := by kernel_rfl
theorem L_impl_GoodPolSchema_0_4_eq (g0 : (List ((List Int) × Int))) (n : Nat) (x1 : (List DThingType)) (x2 : Int) (x3 : Int) (x4 : DPolSchema) : L_impl_GoodPolSchema_0_4 g0 (n + 1) x1 x2 x3 x4 =
    bif decide (x3 < x2) then
      bif inB x3 x1.length then
        Option.bind (P_impl_GoodName ((rd x1 x3 (Ty.dflt TyThingType)).1)) fun (y1 : Bool) =>
        bif !(y1) then
          some false
        else
          bif decide ((rd x1 x3 (Ty.dflt TyThingType)).1 = ([65, 99, 116, 105, 111, 110] : List Int)) then
            some false
          else
            bif decide ((0 : Int) < x3) then
              bif inB (IntKind.wrap .i64 (x3 - 1)) x4.1.length then
                bif !lessI ((rd x4.1 (IntKind.wrap .i64 (x3 - 1)) (Ty.dflt TyThingType)).1) ((rd x1 x3 (Ty.dflt TyThingType)).1) then
                  some false
                else
                  Option.bind (P_impl_PolSchema_ythingNames x4 (((rd x1 x3 (Ty.dflt TyThingType)).2).1)) fun (y2 : Bool) =>
                  bif !(y2) then
                    some false
                  else
                    Option.bind (P_impl_PolSchema_ygoodAttrs g0 x4 (((rd x1 x3 (Ty.dflt TyThingType)).2).2)) fun (y3 : Bool) =>
                    bif !(y3) then
                      some false
                    else
                      L_impl_GoodPolSchema_0_4 g0 n x1 x2 (IntKind.wrap .i64 (x3 + 1)) x4
              else none
            else
              Option.bind (P_impl_PolSchema_ythingNames x4 (((rd x1 x3 (Ty.dflt TyThingType)).2).1)) fun (y4 : Bool) =>
              bif !(y4) then
                some false
              else
                Option.bind (P_impl_PolSchema_ygoodAttrs g0 x4 (((rd x1 x3 (Ty.dflt TyThingType)).2).2)) fun (y5 : Bool) =>
                bif !(y5) then
                  some false
                else
                  L_impl_GoodPolSchema_0_4 g0 n x1 x2 (IntKind.wrap .i64 (x3 + 1)) x4
      else none
    else
      L_impl_GoodPolSchema_0_10 g0 n x4.2 (x4.2.length : Int) 0 x4 := by kernel_rfl
theorem L_impl_GoodPolSchema_0_10_eq (g0 : (List ((List Int) × Int))) (n : Nat) (x1 : (List DActionType)) (x2 : Int) (x3 : Int) (x4 : DPolSchema) : L_impl_GoodPolSchema_0_10 g0 (n + 1) x1 x2 x3 x4 =
    bif decide (x3 < x2) then
      bif inB x3 x1.length then
        Option.bind (P_impl_ygoodId ((rd x1 x3 (Ty.dflt TyActionType)).1)) fun (y6 : Bool) =>
        bif !(y6) then
          some false
        else
          bif decide ((0 : Int) < x3) then
            bif inB (IntKind.wrap .i64 (x3 - 1)) x4.2.length then
              bif !lessI ((rd x4.2 (IntKind.wrap .i64 (x3 - 1)) (Ty.dflt TyActionType)).1) ((rd x1 x3 (Ty.dflt TyActionType)).1) then
                some false
              else
                bif decide (((((rd x1 x3 (Ty.dflt TyActionType)).2).1).length : Int) = 0) then
                  some false
                else
                  bif decide ((((((rd x1 x3 (Ty.dflt TyActionType)).2).2).1).length : Int) = 0) then
                    some false
                  else
                    Option.bind (P_impl_PolSchema_ythingNames x4 (((rd x1 x3 (Ty.dflt TyActionType)).2).1)) fun (y7 : Bool) =>
                    bif !(y7) then
                      some false
                    else
                      Option.bind (P_impl_PolSchema_ythingNames x4 ((((rd x1 x3 (Ty.dflt TyActionType)).2).2).1)) fun (y8 : Bool) =>
                      bif !(y8) then
                        some false
                      else
                        Option.bind (P_impl_PolSchema_ygoodAttrs g0 x4 ((((rd x1 x3 (Ty.dflt TyActionType)).2).2).2)) fun (y9 : Bool) =>
                        bif !(y9) then
                          some false
                        else
                          L_impl_GoodPolSchema_0_10 g0 n x1 x2 (IntKind.wrap .i64 (x3 + 1)) x4
            else none
          else
            bif decide (((((rd x1 x3 (Ty.dflt TyActionType)).2).1).length : Int) = 0) then
              some false
            else
              bif decide ((((((rd x1 x3 (Ty.dflt TyActionType)).2).2).1).length : Int) = 0) then
                some false
              else
                Option.bind (P_impl_PolSchema_ythingNames x4 (((rd x1 x3 (Ty.dflt TyActionType)).2).1)) fun (y10 : Bool) =>
                bif !(y10) then
                  some false
                else
                  Option.bind (P_impl_PolSchema_ythingNames x4 ((((rd x1 x3 (Ty.dflt TyActionType)).2).2).1)) fun (y11 : Bool) =>
                  bif !(y11) then
                    some false
                  else
                    Option.bind (P_impl_PolSchema_ygoodAttrs g0 x4 ((((rd x1 x3 (Ty.dflt TyActionType)).2).2).2)) fun (y12 : Bool) =>
                    bif !(y12) then
                      some false
                    else
                      L_impl_GoodPolSchema_0_10 g0 n x1 x2 (IntKind.wrap .i64 (x3 + 1)) x4
      else none
    else
      some true := by kernel_rfl
theorem S_impl_GoodPolSchema_0_10 {g0 : (List ((List Int) × Int))} {x1 : (List DActionType)} {x4 : DPolSchema} (hl : x1.length ≤ maxLen) : ∀ (rest : List DActionType) (k : Nat) (r : Bool), rest = x1.drop k → P_impl_GoodPolSchema_0_10 g0 x4 rest k = some r → Ev (fun n => L_impl_GoodPolSchema_0_10 g0 n x1 (x1.length : Int) (k : Int) x4) r := by
  intro rest
  induction rest with
  | nil =>
    intro k r hr h
    have hk := drop_nil hr
    rw [P_impl_GoodPolSchema_0_10] at h
    refine Ev.step ?_ (fun n => L_impl_GoodPolSchema_0_10_eq g0 n x1 (x1.length : Int) (k : Int) x4)
    rw [show decide ((k : Int) < (x1.length : Int)) = false from decide_eq_false (by omega)]
    exact Ev.neg rfl (Ev.ofSome h)
  | cons e rest ih =>
    intro k r hr h
    obtain ⟨hk, hx, hr2⟩ := drop_cons (d := (Ty.dflt TyActionType)) hr
    have hw := wrap_succ hl hk
    have ih2 : ∀ (r : Bool), P_impl_GoodPolSchema_0_10 g0 x4 rest (k + 1) = some r → Ev (fun n => L_impl_GoodPolSchema_0_10 g0 n x1 (x1.length : Int) (IntKind.wrap .i64 ((k : Int) + 1)) x4) r := by
      intro r h; rw [hw]; exact ih (k + 1) r hr2 h
    rw [P_impl_GoodPolSchema_0_10] at h
    refine Ev.step ?_ (fun n => L_impl_GoodPolSchema_0_10_eq g0 n x1 (x1.length : Int) (k : Int) x4)
    rw [show decide ((k : Int) < (x1.length : Int)) = true from decide_eq_true (by omega), inB_nat2 hk, hx]
    exact Ev.pos rfl (Ev.pos rfl (Ev.ofBind h fun y6 h => (Ev.ofBif h (fun h => (Ev.ofSome h)) (fun h => (Ev.ofBif h (fun h => (Ev.ofBif h (fun h => (Ev.ofBif h (fun h => (Ev.ofSome h)) (fun h => (Ev.ofBif h (fun h => (Ev.ofSome h)) (fun h => (Ev.ofBif h (fun h => (Ev.ofSome h)) (fun h => (Ev.ofBind h fun y7 h => (Ev.ofBif h (fun h => (Ev.ofSome h)) (fun h => (Ev.ofBind h fun y8 h => (Ev.ofBif h (fun h => (Ev.ofSome h)) (fun h => (Ev.ofBind h fun y9 h => (Ev.ofBif h (fun h => (Ev.ofSome h)) (fun h => (ih2  _ h))))))))))))))))) (fun h => (Ev.ofNone h)))) (fun h => (Ev.ofBif h (fun h => (Ev.ofSome h)) (fun h => (Ev.ofBif h (fun h => (Ev.ofSome h)) (fun h => (Ev.ofBind h fun y10 h => (Ev.ofBif h (fun h => (Ev.ofSome h)) (fun h => (Ev.ofBind h fun y11 h => (Ev.ofBif h (fun h => (Ev.ofSome h)) (fun h => (Ev.ofBind h fun y12 h => (Ev.ofBif h (fun h => (Ev.ofSome h)) (fun h => (ih2  _ h))))))))))))))))))))
theorem S_impl_GoodPolSchema_0_4 {g0 : (List ((List Int) × Int))} {x1 : (List DThingType)} {x4 : DPolSchema} (hl : x1.length ≤ maxLen) : ∀ (rest : List DThingType) (k : Nat) (r : Bool), rest = x1.drop k → P_impl_GoodPolSchema_0_4 g0 x4 rest k = some r → Ev (fun n => L_impl_GoodPolSchema_0_4 g0 n x1 (x1.length : Int) (k : Int) x4) r := by
  intro rest
  induction rest with
  | nil =>
    intro k r hr h
    have hk := drop_nil hr
    rw [P_impl_GoodPolSchema_0_4] at h
    refine Ev.step ?_ (fun n => L_impl_GoodPolSchema_0_4_eq g0 n x1 (x1.length : Int) (k : Int) x4)
    rw [show decide ((k : Int) < (x1.length : Int)) = false from decide_eq_false (by omega)]
    exact Ev.neg rfl (Ev.ofLen h fun hl h => S_impl_GoodPolSchema_0_10 hl _ (0 : Nat) _ rfl h)
  | cons e rest ih =>
    intro k r hr h
    obtain ⟨hk, hx, hr2⟩ := drop_cons (d := (Ty.dflt TyThingType)) hr
    have hw := wrap_succ hl hk
    have ih2 : ∀ (r : Bool), P_impl_GoodPolSchema_0_4 g0 x4 rest (k + 1) = some r → Ev (fun n => L_impl_GoodPolSchema_0_4 g0 n x1 (x1.length : Int) (IntKind.wrap .i64 ((k : Int) + 1)) x4) r := by
      intro r h; rw [hw]; exact ih (k + 1) r hr2 h
    rw [P_impl_GoodPolSchema_0_4] at h
    refine Ev.step ?_ (fun n => L_impl_GoodPolSchema_0_4_eq g0 n x1 (x1.length : Int) (k : Int) x4)
    rw [show decide ((k : Int) < (x1.length : Int)) = true from decide_eq_true (by omega), inB_nat2 hk, hx]
    exact Ev.pos rfl (Ev.pos rfl (Ev.ofBind h fun y1 h => (Ev.ofBif h (fun h => (Ev.ofSome h)) (fun h => (Ev.ofBif h (fun h => (Ev.ofSome h)) (fun h => (Ev.ofBif h (fun h => (Ev.ofBif h (fun h => (Ev.ofBif h (fun h => (Ev.ofSome h)) (fun h => (Ev.ofBind h fun y2 h => (Ev.ofBif h (fun h => (Ev.ofSome h)) (fun h => (Ev.ofBind h fun y3 h => (Ev.ofBif h (fun h => (Ev.ofSome h)) (fun h => (ih2  _ h)))))))))) (fun h => (Ev.ofNone h)))) (fun h => (Ev.ofBind h fun y4 h => (Ev.ofBif h (fun h => (Ev.ofSome h)) (fun h => (Ev.ofBind h fun y5 h => (Ev.ofBif h (fun h => (Ev.ofSome h)) (fun h => (ih2  _ h)))))))))))))))
theorem S_impl_GoodPolSchema {g0 : (List ((List Int) × Int))} (a0 : DPolSchema) {r : Bool} (h : P_impl_GoodPolSchema g0 a0 = some r) : Ev (fun n => F_impl_GoodPolSchema g0 n a0) r := by
  rw [P_impl_GoodPolSchema] at h
  refine Ev.of_eq ?_ (fun n => F_impl_GoodPolSchema_eq g0 n a0)
  exact (Ev.ofBif h (fun h => (Ev.ofSome h)) (fun h => (Ev.ofBif h (fun h => (Ev.ofSome h)) (fun h => (Ev.ofLen h fun hl h => S_impl_GoodPolSchema_0_4 hl _ (0 : Nat) _ rfl h)))))
theorem hcs_impl_GoodPolSchema (g0 : (List ((List Int) × Int))) : ∀ x ∈ cs_impl_GoodPolSchema g0, CtrOkG Tryd.prog (glOf [(0, explode (.map .str I64) g0)]) x := (conOf_cons ok_impl_GoodName.any (conOf_cons ok_impl_PolSchema_ythingNames.any (conOf_cons (ok_impl_PolSchema_ygoodAttrs g0) (conOf_cons ok_impl_ygoodId.any conOf_nil))))
theorem ok_impl_GoodPolSchema (g0 : (List ((List Int) × Int))) : CtrOkG Tryd.prog (glOf [(0, explode (.map .str I64) g0)]) (c_impl_GoodPolSchema g0) := by
  refine ctr_of_run (c := c_impl_GoodPolSchema g0) (by kernel_rfl) (by kernel_rfl : Tryd.prog.funcs[14]? = some Tryd.f14) (code := Tryd.f14.body.getD .skip) (by kernel_rfl) (by kernel_rfl) (by kernel_rfl) (A := A_impl_GoodPolSchema) (I := In_impl_GoodPolSchema) (hcs_impl_GoodPolSchema g0) ?_
  rintro ⟨a0, u⟩ y hy
  exact (S_impl_GoodPolSchema a0 hy).get

/-! ## laws.szAttrKind (126) -/
noncomputable def c_laws_szAttrKind : Ctr := ⟨126, [TyAttrKind, I64], [I64], fun x => szC TyAttrKind x.1 x.2.1⟩
def A_laws_szAttrKind : List (List Nat × Ann) := []
def In_laws_szAttrKind : List (List Nat × Nat) := []
noncomputable def cs_laws_szAttrKind : List Ctr := []
noncomputable def F_laws_szAttrKind (n : Nat) (a0 : DAttrKind) (a1 : Int) : Option Int := run Tryd.prog A_laws_szAttrKind In_laws_szAttrKind (conOf cs_laws_szAttrKind) Tryd.f126 (Tryd.f126.body.getD .skip) (packT [I64]) n (argsV [TyAttrKind, I64] (a0, a1, ()))
theorem F_laws_szAttrKind_eq (n : Nat) (a0 : DAttrKind) (a1 : Int) : F_laws_szAttrKind n a0 a1 =
    bif decide (IntKind.wrap .i64 (a1 - (a0.1.length : Int)) < 0) then
      some (-1)
    else
      bif decide (IntKind.wrap .i64 ((IntKind.wrap .i64 (a1 - (a0.1.length : Int))) - (a0.2.1.length : Int)) < 0) then
        some (-1)
      else
        some (IntKind.wrap .i64 ((IntKind.wrap .i64 (a1 - (a0.1.length : Int))) - (a0.2.1.length : Int))) := by kernel_rfl
theorem mk_laws_szAttrKind (hcs : ∀ x ∈ cs_laws_szAttrKind, CtrOk Tryd.prog x) (h : ∀ (a0 : DAttrKind) (a1 : Int) y, szC TyAttrKind a0 a1 = some y → ∃ n, F_laws_szAttrKind n a0 a1 = some y) : CtrOk Tryd.prog c_laws_szAttrKind := by
  refine ctr_of_run (c := c_laws_szAttrKind) (by kernel_rfl) (by kernel_rfl : Tryd.prog.funcs[126]? = some Tryd.f126) (code := Tryd.f126.body.getD .skip) (by kernel_rfl) (by kernel_rfl) (by kernel_rfl) (A := A_laws_szAttrKind) (I := In_laws_szAttrKind) hcs ?_
  rintro ⟨a0, a1, u⟩ y hy
  exact h a0 a1 y hy

theorem hcs_laws_szAttrKind : ∀ x ∈ cs_laws_szAttrKind, CtrOk Tryd.prog x := conOf_nil
theorem ok_laws_szAttrKind : CtrOk Tryd.prog c_laws_szAttrKind := mk_laws_szAttrKind hcs_laws_szAttrKind fun a0 a1 y hy => by
  obtain ⟨hw, h0, h1, rfl⟩ := szC_inv hy
  have hw2 : wfD .str a0.1 ∧ wfD .str a0.2.1 ∧ wfD .bool a0.2.2 := hw
  have hsz : Ty.size TyAttrKind a0 = Ty.size .str a0.1 + (Ty.size .str a0.2.1 + (Ty.size .bool a0.2.2)) := rfl
  have z2 : Ty.size .bool a0.2.2 = 0 := rfl
  have z0 : Ty.size .str a0.1 = a0.1.length := rfl
  have z1 : Ty.size .str a0.2.1 = a0.2.1.length := rfl
  refine ⟨0, ?_⟩
  rw [F_laws_szAttrKind_eq, hsz]
  have hn0 : a0.1.length ≤ maxLen := by have := (hw2.1).1; unfold maxLen; omega
  rw [lessZ_wrap (left := a1) (n := a0.1.length) (by omega) (by omega) hn0]
  rcases Int.lt_or_le (a1) (a0.1.length : Int) with h | h
  · rw [decide_eq_true (show (a1 - (a0.1.length : Int)) < 0 by omega)]; simp only [cond_true]; unfold lessZ; rw [if_neg (by omega)]
  rw [decide_eq_false (show ¬ (a1 - (a0.1.length : Int)) < 0 by omega)]; simp only [cond_false]
  have h_0 := h; clear h
  have hn1 : a0.2.1.length ≤ maxLen := by have := (hw2.2.1).1; unfold maxLen; omega
  rw [lessZ_wrap (left := (a1 - (a0.1.length : Int))) (n := a0.2.1.length) (by omega) (by omega) hn1]
  rcases Int.lt_or_le ((a1 - (a0.1.length : Int))) (a0.2.1.length : Int) with h | h
  · rw [decide_eq_true (show ((a1 - (a0.1.length : Int)) - (a0.2.1.length : Int)) < 0 by omega)]; simp only [cond_true]; unfold lessZ; rw [if_neg (by omega)]
  rw [decide_eq_false (show ¬ ((a1 - (a0.1.length : Int)) - (a0.2.1.length : Int)) < 0 by omega)]; simp only [cond_false]
  have h_1 := h; clear h
  unfold lessZ; rw [if_pos (by omega)]; congr 1 <;> omega
/-! ## laws.szAttrKindS (110) -/
noncomputable def c_laws_szAttrKindS : Ctr := ⟨110, [(.list TyAttrKind), I64], [I64], fun x => szC (.list TyAttrKind) x.1 x.2.1⟩
def A_laws_szAttrKindS : List (List Nat × Ann) := [([0, 5], [.keep 0 0, .keep 0 1, .keep 0 5])]
def In_laws_szAttrKindS : List (List Nat × Nat) := []
noncomputable def cs_laws_szAttrKindS : List Ctr := [c_laws_szAttrKind]
noncomputable def F_laws_szAttrKindS (n : Nat) (a0 : (List DAttrKind)) (a1 : Int) : Option Int := run Tryd.prog A_laws_szAttrKindS In_laws_szAttrKindS (conOf cs_laws_szAttrKindS) Tryd.f110 (Tryd.f110.body.getD .skip) (packT [I64]) n (argsV [(.list TyAttrKind), I64] (a0, a1, ()))
noncomputable abbrev L_laws_szAttrKindS_0_5 (n : Nat) (x1 : (List DAttrKind)) (x2 : Int) (x3 : Int) : Option Int := lam Tryd.prog A_laws_szAttrKindS In_laws_szAttrKindS (conOf cs_laws_szAttrKindS) Tryd.f110 (Tryd.f110.body.getD .skip) (packT [I64]) n [0, 5] [.d (.list TyAttrKind) x1, .d I64 x2, .d I64 x3]
theorem F_laws_szAttrKindS_eq (n : Nat) (a0 : (List DAttrKind)) (a1 : Int) : F_laws_szAttrKindS n a0 a1 =
    bif decide (IntKind.wrap .i64 (a1 - (a0.length : Int)) < 0) then
      some (-1)
    else
      L_laws_szAttrKindS_0_5 n a0 (IntKind.wrap .i64 (a1 - (a0.length : Int))) 0 := by kernel_rfl
theorem L_laws_szAttrKindS_0_5_eq (n : Nat) (x1 : (List DAttrKind)) (x2 : Int) (x3 : Int) : L_laws_szAttrKindS_0_5 (n + 1) x1 x2 x3 =
    bif decide (x3 < (x1.length : Int)) then
      bif inB x3 x1.length then
        Option.bind (szC TyAttrKind (rd x1 x3 (Ty.dflt TyAttrKind)) x2) fun (y1 : Int) =>
        bif decide (y1 < 0) then
          some (-1)
        else
          L_laws_szAttrKindS_0_5 n x1 y1 (IntKind.wrap .i64 (x3 + 1))
      else none
    else
      some x2 := by kernel_rfl
theorem mk_laws_szAttrKindS (hcs : ∀ x ∈ cs_laws_szAttrKindS, CtrOk Tryd.prog x) (h : ∀ (a0 : (List DAttrKind)) (a1 : Int) y, szC (.list TyAttrKind) a0 a1 = some y → ∃ n, F_laws_szAttrKindS n a0 a1 = some y) : CtrOk Tryd.prog c_laws_szAttrKindS := by
  refine ctr_of_run (c := c_laws_szAttrKindS) (by kernel_rfl) (by kernel_rfl : Tryd.prog.funcs[110]? = some Tryd.f110) (code := Tryd.f110.body.getD .skip) (by kernel_rfl) (by kernel_rfl) (by kernel_rfl) (A := A_laws_szAttrKindS) (I := In_laws_szAttrKindS) hcs ?_
  rintro ⟨a0, a1, u⟩ y hy
  exact h a0 a1 y hy

theorem hcs_laws_szAttrKindS : ∀ x ∈ cs_laws_szAttrKindS, CtrOk Tryd.prog x := (conOf_cons ok_laws_szAttrKind conOf_nil)
theorem ok_laws_szAttrKindS : CtrOk Tryd.prog c_laws_szAttrKindS := mk_laws_szAttrKindS hcs_laws_szAttrKindS fun a0 a1 y hy => by
  obtain ⟨n, hn⟩ := szS_call (fun n xs s i => L_laws_szAttrKindS_0_5_eq n xs s i) hy
  exact ⟨n, (F_laws_szAttrKindS_eq n a0 a1).trans hn⟩
/-! ## laws.szThingType (79) -/
noncomputable def c_laws_szThingType : Ctr := ⟨79, [TyThingType, I64], [I64], fun x => szC TyThingType x.1 x.2.1⟩
def A_laws_szThingType : List (List Nat × Ann) := []
def In_laws_szThingType : List (List Nat × Nat) := []
noncomputable def cs_laws_szThingType : List Ctr := [c_laws_szStringS, c_laws_szAttrKindS]
noncomputable def F_laws_szThingType (n : Nat) (a0 : DThingType) (a1 : Int) : Option Int := run Tryd.prog A_laws_szThingType In_laws_szThingType (conOf cs_laws_szThingType) Tryd.f79 (Tryd.f79.body.getD .skip) (packT [I64]) n (argsV [TyThingType, I64] (a0, a1, ()))
theorem F_laws_szThingType_eq (n : Nat) (a0 : DThingType) (a1 : Int) : F_laws_szThingType n a0 a1 =
    bif decide (IntKind.wrap .i64 (a1 - (a0.1.length : Int)) < 0) then
      some (-1)
    else
      Option.bind (szC (.list .str) a0.2.1 (IntKind.wrap .i64 (a1 - (a0.1.length : Int)))) fun (y1 : Int) =>
      bif decide (y1 < 0) then
        some (-1)
      else
        Option.bind (szC (.list TyAttrKind) a0.2.2 y1) fun (y2 : Int) =>
        bif decide (y2 < 0) then
          some (-1)
        else
          some y2 := by kernel_rfl
theorem mk_laws_szThingType (hcs : ∀ x ∈ cs_laws_szThingType, CtrOk Tryd.prog x) (h : ∀ (a0 : DThingType) (a1 : Int) y, szC TyThingType a0 a1 = some y → ∃ n, F_laws_szThingType n a0 a1 = some y) : CtrOk Tryd.prog c_laws_szThingType := by
  refine ctr_of_run (c := c_laws_szThingType) (by kernel_rfl) (by kernel_rfl : Tryd.prog.funcs[79]? = some Tryd.f79) (code := Tryd.f79.body.getD .skip) (by kernel_rfl) (by kernel_rfl) (by kernel_rfl) (A := A_laws_szThingType) (I := In_laws_szThingType) hcs ?_
  rintro ⟨a0, a1, u⟩ y hy
  exact h a0 a1 y hy

theorem hcs_laws_szThingType : ∀ x ∈ cs_laws_szThingType, CtrOk Tryd.prog x := (conOf_cons ok_laws_szStringS (conOf_cons ok_laws_szAttrKindS conOf_nil))
theorem ok_laws_szThingType : CtrOk Tryd.prog c_laws_szThingType := mk_laws_szThingType hcs_laws_szThingType fun a0 a1 y hy => by
  obtain ⟨hw, h0, h1, rfl⟩ := szC_inv hy
  have hw2 : wfD .str a0.1 ∧ wfD (.list .str) a0.2.1 ∧ wfD (.list TyAttrKind) a0.2.2 := hw
  have hsz : Ty.size TyThingType a0 = Ty.size .str a0.1 + (Ty.size (.list .str) a0.2.1 + (Ty.size (.list TyAttrKind) a0.2.2)) := rfl
  have z0 : Ty.size .str a0.1 = a0.1.length := rfl
  refine ⟨0, ?_⟩
  rw [F_laws_szThingType_eq, hsz]
  have hn0 : a0.1.length ≤ maxLen := by have := (hw2.1).1; unfold maxLen; omega
  rw [lessZ_wrap (left := a1) (n := a0.1.length) (by omega) (by omega) hn0]
  rcases Int.lt_or_le (a1) (a0.1.length : Int) with h | h
  · rw [decide_eq_true (show (a1 - (a0.1.length : Int)) < 0 by omega)]; simp only [cond_true]; unfold lessZ; rw [if_neg (by omega)]
  rw [decide_eq_false (show ¬ (a1 - (a0.1.length : Int)) < 0 by omega)]; simp only [cond_false]
  have h_0 := h; clear h
  rw [szC_some hw2.2.1 (show 0 ≤ (a1 - (a0.1.length : Int)) by omega) (by omega)]
  simp only [Option.bind_some]
  rcases Int.lt_or_le ((a1 - (a0.1.length : Int))) ((Ty.size (.list .str) a0.2.1 : Nat) : Int) with h | h
  · rw [show lessZ ((a1 - (a0.1.length : Int))) (Ty.size (.list .str) a0.2.1) = -1 by unfold lessZ; rw [if_neg (by omega)]]; rw [decide_eq_true (show (-1 : Int) < 0 by omega)]; simp only [cond_true]; unfold lessZ; rw [if_neg (by omega)]
  rw [show lessZ ((a1 - (a0.1.length : Int))) (Ty.size (.list .str) a0.2.1) = ((a1 - (a0.1.length : Int)) - ((Ty.size (.list .str) a0.2.1 : Nat) : Int)) by unfold lessZ; rw [if_pos h]]; rw [decide_eq_false (show ¬ ((a1 - (a0.1.length : Int)) - ((Ty.size (.list .str) a0.2.1 : Nat) : Int)) < 0 by omega)]; simp only [cond_false]
  have h_1 := h; clear h
  rw [szC_some hw2.2.2 (show 0 ≤ ((a1 - (a0.1.length : Int)) - ((Ty.size (.list .str) a0.2.1 : Nat) : Int)) by omega) (by omega)]
  simp only [Option.bind_some]
  rcases Int.lt_or_le (((a1 - (a0.1.length : Int)) - ((Ty.size (.list .str) a0.2.1 : Nat) : Int))) ((Ty.size (.list TyAttrKind) a0.2.2 : Nat) : Int) with h | h
  · rw [show lessZ (((a1 - (a0.1.length : Int)) - ((Ty.size (.list .str) a0.2.1 : Nat) : Int))) (Ty.size (.list TyAttrKind) a0.2.2) = -1 by unfold lessZ; rw [if_neg (by omega)]]; rw [decide_eq_true (show (-1 : Int) < 0 by omega)]; simp only [cond_true]; unfold lessZ; rw [if_neg (by omega)]
  rw [show lessZ (((a1 - (a0.1.length : Int)) - ((Ty.size (.list .str) a0.2.1 : Nat) : Int))) (Ty.size (.list TyAttrKind) a0.2.2) = (((a1 - (a0.1.length : Int)) - ((Ty.size (.list .str) a0.2.1 : Nat) : Int)) - ((Ty.size (.list TyAttrKind) a0.2.2 : Nat) : Int)) by unfold lessZ; rw [if_pos h]]; rw [decide_eq_false (show ¬ (((a1 - (a0.1.length : Int)) - ((Ty.size (.list .str) a0.2.1 : Nat) : Int)) - ((Ty.size (.list TyAttrKind) a0.2.2 : Nat) : Int)) < 0 by omega)]; simp only [cond_false]
  have h_2 := h; clear h
  unfold lessZ; rw [if_pos (by omega)]; congr 1 <;> omega
/-! ## laws.szThingTypeS (41) -/
noncomputable def c_laws_szThingTypeS : Ctr := ⟨41, [(.list TyThingType), I64], [I64], fun x => szC (.list TyThingType) x.1 x.2.1⟩
def A_laws_szThingTypeS : List (List Nat × Ann) := [([0, 5], [.keep 0 0, .keep 0 1, .keep 0 5])]
def In_laws_szThingTypeS : List (List Nat × Nat) := []
noncomputable def cs_laws_szThingTypeS : List Ctr := [c_laws_szThingType]
noncomputable def F_laws_szThingTypeS (n : Nat) (a0 : (List DThingType)) (a1 : Int) : Option Int := run Tryd.prog A_laws_szThingTypeS In_laws_szThingTypeS (conOf cs_laws_szThingTypeS) Tryd.f41 (Tryd.f41.body.getD .skip) (packT [I64]) n (argsV [(.list TyThingType), I64] (a0, a1, ()))
noncomputable abbrev L_laws_szThingTypeS_0_5 (n : Nat) (x1 : (List DThingType)) (x2 : Int) (x3 : Int) : Option Int := lam Tryd.prog A_laws_szThingTypeS In_laws_szThingTypeS (conOf cs_laws_szThingTypeS) Tryd.f41 (Tryd.f41.body.getD .skip) (packT [I64]) n [0, 5] [.d (.list TyThingType) x1, .d I64 x2, .d I64 x3]
theorem F_laws_szThingTypeS_eq (n : Nat) (a0 : (List DThingType)) (a1 : Int) : F_laws_szThingTypeS n a0 a1 =
    bif decide (IntKind.wrap .i64 (a1 - (a0.length : Int)) < 0) then
      some (-1)
    else
      L_laws_szThingTypeS_0_5 n a0 (IntKind.wrap .i64 (a1 - (a0.length : Int))) 0 := by kernel_rfl
theorem L_laws_szThingTypeS_0_5_eq (n : Nat) (x1 : (List DThingType)) (x2 : Int) (x3 : Int) : L_laws_szThingTypeS_0_5 (n + 1) x1 x2 x3 =
    bif decide (x3 < (x1.length : Int)) then
      bif inB x3 x1.length then
        Option.bind (szC TyThingType (rd x1 x3 (Ty.dflt TyThingType)) x2) fun (y1 : Int) =>
        bif decide (y1 < 0) then
          some (-1)
        else
          L_laws_szThingTypeS_0_5 n x1 y1 (IntKind.wrap .i64 (x3 + 1))
      else none
    else
      some x2 := by kernel_rfl
theorem mk_laws_szThingTypeS (hcs : ∀ x ∈ cs_laws_szThingTypeS, CtrOk Tryd.prog x) (h : ∀ (a0 : (List DThingType)) (a1 : Int) y, szC (.list TyThingType) a0 a1 = some y → ∃ n, F_laws_szThingTypeS n a0 a1 = some y) : CtrOk Tryd.prog c_laws_szThingTypeS := by
  refine ctr_of_run (c := c_laws_szThingTypeS) (by kernel_rfl) (by kernel_rfl : Tryd.prog.funcs[41]? = some Tryd.f41) (code := Tryd.f41.body.getD .skip) (by kernel_rfl) (by kernel_rfl) (by kernel_rfl) (A := A_laws_szThingTypeS) (I := In_laws_szThingTypeS) hcs ?_
  rintro ⟨a0, a1, u⟩ y hy
  exact h a0 a1 y hy

theorem hcs_laws_szThingTypeS : ∀ x ∈ cs_laws_szThingTypeS, CtrOk Tryd.prog x := (conOf_cons ok_laws_szThingType conOf_nil)
theorem ok_laws_szThingTypeS : CtrOk Tryd.prog c_laws_szThingTypeS := mk_laws_szThingTypeS hcs_laws_szThingTypeS fun a0 a1 y hy => by
  obtain ⟨n, hn⟩ := szS_call (fun n xs s i => L_laws_szThingTypeS_0_5_eq n xs s i) hy
  exact ⟨n, (F_laws_szThingTypeS_eq n a0 a1).trans hn⟩
/-! ## laws.szActionType (80) -/
noncomputable def c_laws_szActionType : Ctr := ⟨80, [TyActionType, I64], [I64], fun x => szC TyActionType x.1 x.2.1⟩
def A_laws_szActionType : List (List Nat × Ann) := []
def In_laws_szActionType : List (List Nat × Nat) := []
noncomputable def cs_laws_szActionType : List Ctr := [c_laws_szStringS, c_laws_szAttrKindS]
noncomputable def F_laws_szActionType (n : Nat) (a0 : DActionType) (a1 : Int) : Option Int := run Tryd.prog A_laws_szActionType In_laws_szActionType (conOf cs_laws_szActionType) Tryd.f80 (Tryd.f80.body.getD .skip) (packT [I64]) n (argsV [TyActionType, I64] (a0, a1, ()))
theorem F_laws_szActionType_eq (n : Nat) (a0 : DActionType) (a1 : Int) : F_laws_szActionType n a0 a1 =
    bif decide (IntKind.wrap .i64 (a1 - (a0.1.length : Int)) < 0) then
      some (-1)
    else
      Option.bind (szC (.list .str) a0.2.1 (IntKind.wrap .i64 (a1 - (a0.1.length : Int)))) fun (y1 : Int) =>
      bif decide (y1 < 0) then
        some (-1)
      else
        Option.bind (szC (.list .str) a0.2.2.1 y1) fun (y2 : Int) =>
        bif decide (y2 < 0) then
          some (-1)
        else
          Option.bind (szC (.list TyAttrKind) a0.2.2.2 y2) fun (y3 : Int) =>
          bif decide (y3 < 0) then
            some (-1)
          else
            some y3 := by kernel_rfl
theorem mk_laws_szActionType (hcs : ∀ x ∈ cs_laws_szActionType, CtrOk Tryd.prog x) (h : ∀ (a0 : DActionType) (a1 : Int) y, szC TyActionType a0 a1 = some y → ∃ n, F_laws_szActionType n a0 a1 = some y) : CtrOk Tryd.prog c_laws_szActionType := by
  refine ctr_of_run (c := c_laws_szActionType) (by kernel_rfl) (by kernel_rfl : Tryd.prog.funcs[80]? = some Tryd.f80) (code := Tryd.f80.body.getD .skip) (by kernel_rfl) (by kernel_rfl) (by kernel_rfl) (A := A_laws_szActionType) (I := In_laws_szActionType) hcs ?_
  rintro ⟨a0, a1, u⟩ y hy
  exact h a0 a1 y hy

theorem hcs_laws_szActionType : ∀ x ∈ cs_laws_szActionType, CtrOk Tryd.prog x := (conOf_cons ok_laws_szStringS (conOf_cons ok_laws_szAttrKindS conOf_nil))
theorem ok_laws_szActionType : CtrOk Tryd.prog c_laws_szActionType := mk_laws_szActionType hcs_laws_szActionType fun a0 a1 y hy => by
  obtain ⟨hw, h0, h1, rfl⟩ := szC_inv hy
  have hw2 : wfD .str a0.1 ∧ wfD (.list .str) a0.2.1 ∧ wfD (.list .str) a0.2.2.1 ∧ wfD (.list TyAttrKind) a0.2.2.2 := hw
  have hsz : Ty.size TyActionType a0 = Ty.size .str a0.1 + (Ty.size (.list .str) a0.2.1 + (Ty.size (.list .str) a0.2.2.1 + (Ty.size (.list TyAttrKind) a0.2.2.2))) := rfl
  have z0 : Ty.size .str a0.1 = a0.1.length := rfl
  refine ⟨0, ?_⟩
  rw [F_laws_szActionType_eq, hsz]
  have hn0 : a0.1.length ≤ maxLen := by have := (hw2.1).1; unfold maxLen; omega
  rw [lessZ_wrap (left := a1) (n := a0.1.length) (by omega) (by omega) hn0]
  rcases Int.lt_or_le (a1) (a0.1.length : Int) with h | h
  · rw [decide_eq_true (show (a1 - (a0.1.length : Int)) < 0 by omega)]; simp only [cond_true]; unfold lessZ; rw [if_neg (by omega)]
  rw [decide_eq_false (show ¬ (a1 - (a0.1.length : Int)) < 0 by omega)]; simp only [cond_false]
  have h_0 := h; clear h
  rw [szC_some hw2.2.1 (show 0 ≤ (a1 - (a0.1.length : Int)) by omega) (by omega)]
  simp only [Option.bind_some]
  rcases Int.lt_or_le ((a1 - (a0.1.length : Int))) ((Ty.size (.list .str) a0.2.1 : Nat) : Int) with h | h
  · rw [show lessZ ((a1 - (a0.1.length : Int))) (Ty.size (.list .str) a0.2.1) = -1 by unfold lessZ; rw [if_neg (by omega)]]; rw [decide_eq_true (show (-1 : Int) < 0 by omega)]; simp only [cond_true]; unfold lessZ; rw [if_neg (by omega)]
  rw [show lessZ ((a1 - (a0.1.length : Int))) (Ty.size (.list .str) a0.2.1) = ((a1 - (a0.1.length : Int)) - ((Ty.size (.list .str) a0.2.1 : Nat) : Int)) by unfold lessZ; rw [if_pos h]]; rw [decide_eq_false (show ¬ ((a1 - (a0.1.length : Int)) - ((Ty.size (.list .str) a0.2.1 : Nat) : Int)) < 0 by omega)]; simp only [cond_false]
  have h_1 := h; clear h
  rw [szC_some hw2.2.2.1 (show 0 ≤ ((a1 - (a0.1.length : Int)) - ((Ty.size (.list .str) a0.2.1 : Nat) : Int)) by omega) (by omega)]
  simp only [Option.bind_some]
  rcases Int.lt_or_le (((a1 - (a0.1.length : Int)) - ((Ty.size (.list .str) a0.2.1 : Nat) : Int))) ((Ty.size (.list .str) a0.2.2.1 : Nat) : Int) with h | h
  · rw [show lessZ (((a1 - (a0.1.length : Int)) - ((Ty.size (.list .str) a0.2.1 : Nat) : Int))) (Ty.size (.list .str) a0.2.2.1) = -1 by unfold lessZ; rw [if_neg (by omega)]]; rw [decide_eq_true (show (-1 : Int) < 0 by omega)]; simp only [cond_true]; unfold lessZ; rw [if_neg (by omega)]
  rw [show lessZ (((a1 - (a0.1.length : Int)) - ((Ty.size (.list .str) a0.2.1 : Nat) : Int))) (Ty.size (.list .str) a0.2.2.1) = (((a1 - (a0.1.length : Int)) - ((Ty.size (.list .str) a0.2.1 : Nat) : Int)) - ((Ty.size (.list .str) a0.2.2.1 : Nat) : Int)) by unfold lessZ; rw [if_pos h]]; rw [decide_eq_false (show ¬ (((a1 - (a0.1.length : Int)) - ((Ty.size (.list .str) a0.2.1 : Nat) : Int)) - ((Ty.size (.list .str) a0.2.2.1 : Nat) : Int)) < 0 by omega)]; simp only [cond_false]
  have h_2 := h; clear h
  rw [szC_some hw2.2.2.2 (show 0 ≤ (((a1 - (a0.1.length : Int)) - ((Ty.size (.list .str) a0.2.1 : Nat) : Int)) - ((Ty.size (.list .str) a0.2.2.1 : Nat) : Int)) by omega) (by omega)]
  simp only [Option.bind_some]
  rcases Int.lt_or_le ((((a1 - (a0.1.length : Int)) - ((Ty.size (.list .str) a0.2.1 : Nat) : Int)) - ((Ty.size (.list .str) a0.2.2.1 : Nat) : Int))) ((Ty.size (.list TyAttrKind) a0.2.2.2 : Nat) : Int) with h | h
  · rw [show lessZ ((((a1 - (a0.1.length : Int)) - ((Ty.size (.list .str) a0.2.1 : Nat) : Int)) - ((Ty.size (.list .str) a0.2.2.1 : Nat) : Int))) (Ty.size (.list TyAttrKind) a0.2.2.2) = -1 by unfold lessZ; rw [if_neg (by omega)]]; rw [decide_eq_true (show (-1 : Int) < 0 by omega)]; simp only [cond_true]; unfold lessZ; rw [if_neg (by omega)]
  rw [show lessZ ((((a1 - (a0.1.length : Int)) - ((Ty.size (.list .str) a0.2.1 : Nat) : Int)) - ((Ty.size (.list .str) a0.2.2.1 : Nat) : Int))) (Ty.size (.list TyAttrKind) a0.2.2.2) = ((((a1 - (a0.1.length : Int)) - ((Ty.size (.list .str) a0.2.1 : Nat) : Int)) - ((Ty.size (.list .str) a0.2.2.1 : Nat) : Int)) - ((Ty.size (.list TyAttrKind) a0.2.2.2 : Nat) : Int)) by unfold lessZ; rw [if_pos h]]; rw [decide_eq_false (show ¬ ((((a1 - (a0.1.length : Int)) - ((Ty.size (.list .str) a0.2.1 : Nat) : Int)) - ((Ty.size (.list .str) a0.2.2.1 : Nat) : Int)) - ((Ty.size (.list TyAttrKind) a0.2.2.2 : Nat) : Int)) < 0 by omega)]; simp only [cond_false]
  have h_3 := h; clear h
  unfold lessZ; rw [if_pos (by omega)]; congr 1 <;> omega
/-! ## laws.szActionTypeS (42) -/
noncomputable def c_laws_szActionTypeS : Ctr := ⟨42, [(.list TyActionType), I64], [I64], fun x => szC (.list TyActionType) x.1 x.2.1⟩
def A_laws_szActionTypeS : List (List Nat × Ann) := [([0, 5], [.keep 0 0, .keep 0 1, .keep 0 5])]
def In_laws_szActionTypeS : List (List Nat × Nat) := []
noncomputable def cs_laws_szActionTypeS : List Ctr := [c_laws_szActionType]
noncomputable def F_laws_szActionTypeS (n : Nat) (a0 : (List DActionType)) (a1 : Int) : Option Int := run Tryd.prog A_laws_szActionTypeS In_laws_szActionTypeS (conOf cs_laws_szActionTypeS) Tryd.f42 (Tryd.f42.body.getD .skip) (packT [I64]) n (argsV [(.list TyActionType), I64] (a0, a1, ()))
noncomputable abbrev L_laws_szActionTypeS_0_5 (n : Nat) (x1 : (List DActionType)) (x2 : Int) (x3 : Int) : Option Int := lam Tryd.prog A_laws_szActionTypeS In_laws_szActionTypeS (conOf cs_laws_szActionTypeS) Tryd.f42 (Tryd.f42.body.getD .skip) (packT [I64]) n [0, 5] [.d (.list TyActionType) x1, .d I64 x2, .d I64 x3]
theorem F_laws_szActionTypeS_eq (n : Nat) (a0 : (List DActionType)) (a1 : Int) : F_laws_szActionTypeS n a0 a1 =
    bif decide (IntKind.wrap .i64 (a1 - (a0.length : Int)) < 0) then
      some (-1)
    else
      L_laws_szActionTypeS_0_5 n a0 (IntKind.wrap .i64 (a1 - (a0.length : Int))) 0 := by kernel_rfl
theorem L_laws_szActionTypeS_0_5_eq (n : Nat) (x1 : (List DActionType)) (x2 : Int) (x3 : Int) : L_laws_szActionTypeS_0_5 (n + 1) x1 x2 x3 =
    bif decide (x3 < (x1.length : Int)) then
      bif inB x3 x1.length then
        Option.bind (szC TyActionType (rd x1 x3 (Ty.dflt TyActionType)) x2) fun (y1 : Int) =>
        bif decide (y1 < 0) then
          some (-1)
        else
          L_laws_szActionTypeS_0_5 n x1 y1 (IntKind.wrap .i64 (x3 + 1))
      else none
    else
      some x2 := by kernel_rfl
theorem mk_laws_szActionTypeS (hcs : ∀ x ∈ cs_laws_szActionTypeS, CtrOk Tryd.prog x) (h : ∀ (a0 : (List DActionType)) (a1 : Int) y, szC (.list TyActionType) a0 a1 = some y → ∃ n, F_laws_szActionTypeS n a0 a1 = some y) : CtrOk Tryd.prog c_laws_szActionTypeS := by
  refine ctr_of_run (c := c_laws_szActionTypeS) (by kernel_rfl) (by kernel_rfl : Tryd.prog.funcs[42]? = some Tryd.f42) (code := Tryd.f42.body.getD .skip) (by kernel_rfl) (by kernel_rfl) (by kernel_rfl) (A := A_laws_szActionTypeS) (I := In_laws_szActionTypeS) hcs ?_
  rintro ⟨a0, a1, u⟩ y hy
  exact h a0 a1 y hy

theorem hcs_laws_szActionTypeS : ∀ x ∈ cs_laws_szActionTypeS, CtrOk Tryd.prog x := (conOf_cons ok_laws_szActionType conOf_nil)
theorem ok_laws_szActionTypeS : CtrOk Tryd.prog c_laws_szActionTypeS := mk_laws_szActionTypeS hcs_laws_szActionTypeS fun a0 a1 y hy => by
  obtain ⟨n, hn⟩ := szS_call (fun n xs s i => L_laws_szActionTypeS_0_5_eq n xs s i) hy
  exact ⟨n, (F_laws_szActionTypeS_eq n a0 a1).trans hn⟩
/-! ## laws.szPolSchema (11) -/
noncomputable def c_laws_szPolSchema : Ctr := ⟨11, [TyPolSchema, I64], [I64], fun x => szC TyPolSchema x.1 x.2.1⟩
def A_laws_szPolSchema : List (List Nat × Ann) := []
def In_laws_szPolSchema : List (List Nat × Nat) := []
noncomputable def cs_laws_szPolSchema : List Ctr := [c_laws_szThingTypeS, c_laws_szActionTypeS]
noncomputable def F_laws_szPolSchema (n : Nat) (a0 : DPolSchema) (a1 : Int) : Option Int := run Tryd.prog A_laws_szPolSchema In_laws_szPolSchema (conOf cs_laws_szPolSchema) Tryd.f11 (Tryd.f11.body.getD .skip) (packT [I64]) n (argsV [TyPolSchema, I64] (a0, a1, ()))
theorem F_laws_szPolSchema_eq (n : Nat) (a0 : DPolSchema) (a1 : Int) : F_laws_szPolSchema n a0 a1 =
    Option.bind (szC (.list TyThingType) a0.1 a1) fun (y1 : Int) =>
    bif decide (y1 < 0) then
      some (-1)
    else
      Option.bind (szC (.list TyActionType) a0.2 y1) fun (y2 : Int) =>
      bif decide (y2 < 0) then
        some (-1)
      else
        some y2 := by kernel_rfl
theorem mk_laws_szPolSchema (hcs : ∀ x ∈ cs_laws_szPolSchema, CtrOk Tryd.prog x) (h : ∀ (a0 : DPolSchema) (a1 : Int) y, szC TyPolSchema a0 a1 = some y → ∃ n, F_laws_szPolSchema n a0 a1 = some y) : CtrOk Tryd.prog c_laws_szPolSchema := by
  refine ctr_of_run (c := c_laws_szPolSchema) (by kernel_rfl) (by kernel_rfl : Tryd.prog.funcs[11]? = some Tryd.f11) (code := Tryd.f11.body.getD .skip) (by kernel_rfl) (by kernel_rfl) (by kernel_rfl) (A := A_laws_szPolSchema) (I := In_laws_szPolSchema) hcs ?_
  rintro ⟨a0, a1, u⟩ y hy
  exact h a0 a1 y hy

theorem hcs_laws_szPolSchema : ∀ x ∈ cs_laws_szPolSchema, CtrOk Tryd.prog x := (conOf_cons ok_laws_szThingTypeS (conOf_cons ok_laws_szActionTypeS conOf_nil))
theorem ok_laws_szPolSchema : CtrOk Tryd.prog c_laws_szPolSchema := mk_laws_szPolSchema hcs_laws_szPolSchema fun a0 a1 y hy => by
  obtain ⟨hw, h0, h1, rfl⟩ := szC_inv hy
  have hw2 : wfD (.list TyThingType) a0.1 ∧ wfD (.list TyActionType) a0.2 := hw
  have hsz : Ty.size TyPolSchema a0 = Ty.size (.list TyThingType) a0.1 + (Ty.size (.list TyActionType) a0.2) := rfl
  refine ⟨0, ?_⟩
  rw [F_laws_szPolSchema_eq, hsz]
  rw [szC_some hw2.1 (show 0 ≤ a1 by omega) (by omega)]
  simp only [Option.bind_some]
  rcases Int.lt_or_le (a1) ((Ty.size (.list TyThingType) a0.1 : Nat) : Int) with h | h
  · rw [show lessZ (a1) (Ty.size (.list TyThingType) a0.1) = -1 by unfold lessZ; rw [if_neg (by omega)]]; rw [decide_eq_true (show (-1 : Int) < 0 by omega)]; simp only [cond_true]; unfold lessZ; rw [if_neg (by omega)]
  rw [show lessZ (a1) (Ty.size (.list TyThingType) a0.1) = (a1 - ((Ty.size (.list TyThingType) a0.1 : Nat) : Int)) by unfold lessZ; rw [if_pos h]]; rw [decide_eq_false (show ¬ (a1 - ((Ty.size (.list TyThingType) a0.1 : Nat) : Int)) < 0 by omega)]; simp only [cond_false]
  have h_0 := h; clear h
  rw [szC_some hw2.2 (show 0 ≤ (a1 - ((Ty.size (.list TyThingType) a0.1 : Nat) : Int)) by omega) (by omega)]
  simp only [Option.bind_some]
  rcases Int.lt_or_le ((a1 - ((Ty.size (.list TyThingType) a0.1 : Nat) : Int))) ((Ty.size (.list TyActionType) a0.2 : Nat) : Int) with h | h
  · rw [show lessZ ((a1 - ((Ty.size (.list TyThingType) a0.1 : Nat) : Int))) (Ty.size (.list TyActionType) a0.2) = -1 by unfold lessZ; rw [if_neg (by omega)]]; rw [decide_eq_true (show (-1 : Int) < 0 by omega)]; simp only [cond_true]; unfold lessZ; rw [if_neg (by omega)]
  rw [show lessZ ((a1 - ((Ty.size (.list TyThingType) a0.1 : Nat) : Int))) (Ty.size (.list TyActionType) a0.2) = ((a1 - ((Ty.size (.list TyThingType) a0.1 : Nat) : Int)) - ((Ty.size (.list TyActionType) a0.2 : Nat) : Int)) by unfold lessZ; rw [if_pos h]]; rw [decide_eq_false (show ¬ ((a1 - ((Ty.size (.list TyThingType) a0.1 : Nat) : Int)) - ((Ty.size (.list TyActionType) a0.2 : Nat) : Int)) < 0 by omega)]; simp only [cond_false]
  have h_1 := h; clear h
  unfold lessZ; rw [if_pos (by omega)]; congr 1 <;> omega
/-! ## laws.toAttrKind (127) -/
noncomputable def c_laws_toAttrKind : Ctr := ⟨127, [TyAttrKind], [TyAttrKind], fun x => toC TyAttrKind x.1⟩
def A_laws_toAttrKind : List (List Nat × Ann) := []
def In_laws_toAttrKind : List (List Nat × Nat) := []
noncomputable def cs_laws_toAttrKind : List Ctr := []
noncomputable def F_laws_toAttrKind (n : Nat) (a0 : DAttrKind) : Option DAttrKind := run Tryd.prog A_laws_toAttrKind In_laws_toAttrKind (conOf cs_laws_toAttrKind) Tryd.f127 (Tryd.f127.body.getD .skip) (packT [TyAttrKind]) n (argsV [TyAttrKind] (a0, ()))
theorem F_laws_toAttrKind_eq (n : Nat) (a0 : DAttrKind) : F_laws_toAttrKind n a0 =
    some a0 := by kernel_rfl
theorem mk_laws_toAttrKind (hcs : ∀ x ∈ cs_laws_toAttrKind, CtrOk Tryd.prog x) (h : ∀ (a0 : DAttrKind) y, toC TyAttrKind a0 = some y → ∃ n, F_laws_toAttrKind n a0 = some y) : CtrOk Tryd.prog c_laws_toAttrKind := by
  refine ctr_of_run (c := c_laws_toAttrKind) (by kernel_rfl) (by kernel_rfl : Tryd.prog.funcs[127]? = some Tryd.f127) (code := Tryd.f127.body.getD .skip) (by kernel_rfl) (by kernel_rfl) (by kernel_rfl) (A := A_laws_toAttrKind) (I := In_laws_toAttrKind) hcs ?_
  rintro ⟨a0, u⟩ y hy
  exact h a0 y hy

theorem hcs_laws_toAttrKind : ∀ x ∈ cs_laws_toAttrKind, CtrOk Tryd.prog x := conOf_nil
theorem ok_laws_toAttrKind : CtrOk Tryd.prog c_laws_toAttrKind := mk_laws_toAttrKind hcs_laws_toAttrKind fun a0 y hy => by
  obtain ⟨hw, hs, rfl⟩ := toC_inv hy
  have hw2 : wfD .str y.1 ∧ wfD .str y.2.1 ∧ wfD .bool y.2.2 := hw
  have hs2 : Ty.size .str y.1 + (Ty.size .str y.2.1 + (Ty.size .bool y.2.2)) ≤ 1073741824 := hs
  refine ⟨0, ?_⟩
  rw [F_laws_toAttrKind_eq]
  try rfl
/-! ## laws.toAttrKindS (111) -/
noncomputable def c_laws_toAttrKindS : Ctr := ⟨111, [(.list TyAttrKind)], [(.list TyAttrKind)], fun x => toC (.list TyAttrKind) x.1⟩
def A_laws_toAttrKindS : List (List Nat × Ann) := [([0, 3], [.keep 0 0, .keep 0 3, .keep 0 4, .rows 0 7 TyAttrKind])]
def In_laws_toAttrKindS : List (List Nat × Nat) := []
noncomputable def cs_laws_toAttrKindS : List Ctr := [c_laws_toAttrKind]
noncomputable def F_laws_toAttrKindS (n : Nat) (a0 : (List DAttrKind)) : Option (List DAttrKind) := run Tryd.prog A_laws_toAttrKindS In_laws_toAttrKindS (conOf cs_laws_toAttrKindS) Tryd.f111 (Tryd.f111.body.getD .skip) (packT [(.list TyAttrKind)]) n (argsV [(.list TyAttrKind)] (a0, ()))
noncomputable abbrev L_laws_toAttrKindS_0_3 (n : Nat) (x1 : (List DAttrKind)) (x2 : Int) (x3 : (List DAttrKind)) : Option (List DAttrKind) := lam Tryd.prog A_laws_toAttrKindS In_laws_toAttrKindS (conOf cs_laws_toAttrKindS) Tryd.f111 (Tryd.f111.body.getD .skip) (packT [(.list TyAttrKind)]) n [0, 3] [.d (.list TyAttrKind) x1, .msl 0 7, .d I64 x2, .d (.list TyAttrKind) x3]
theorem F_laws_toAttrKindS_eq (n : Nat) (a0 : (List DAttrKind)) : F_laws_toAttrKindS n a0 =
    bif decide ((a0.length : Int) = (a0.length : Int)) && decide ((0 : Int) ≤ (a0.length : Int)) && decide ((a0.length : Int) * 40 ≤ room) && true then
      L_laws_toAttrKindS_0_3 n a0 0 (List.replicate (Int.toNat (a0.length : Int)) (([] : List Int), ([] : List Int), false))
    else none := by kernel_rfl
theorem L_laws_toAttrKindS_0_3_eq (n : Nat) (x1 : (List DAttrKind)) (x2 : Int) (x3 : (List DAttrKind)) : L_laws_toAttrKindS_0_3 (n + 1) x1 x2 x3 =
    bif decide (x2 < (x1.length : Int)) then
      bif inB x2 x1.length then
        Option.bind (toC TyAttrKind (rd x1 x2 (Ty.dflt TyAttrKind))) fun (y1 : DAttrKind) =>
        bif inB x2 x3.length then
          bif inB x2 x3.length && true && true && true && true then
            L_laws_toAttrKindS_0_3 n x1 (IntKind.wrap .i64 (x2 + 1)) (x3.set (Int.toNat x2) y1)
          else none
        else none
      else none
    else
      some x3 := by kernel_rfl
theorem mk_laws_toAttrKindS (hcs : ∀ x ∈ cs_laws_toAttrKindS, CtrOk Tryd.prog x) (h : ∀ (a0 : (List DAttrKind)) y, toC (.list TyAttrKind) a0 = some y → ∃ n, F_laws_toAttrKindS n a0 = some y) : CtrOk Tryd.prog c_laws_toAttrKindS := by
  refine ctr_of_run (c := c_laws_toAttrKindS) (by kernel_rfl) (by kernel_rfl : Tryd.prog.funcs[111]? = some Tryd.f111) (code := Tryd.f111.body.getD .skip) (by kernel_rfl) (by kernel_rfl) (by kernel_rfl) (A := A_laws_toAttrKindS) (I := In_laws_toAttrKindS) hcs ?_
  rintro ⟨a0, u⟩ y hy
  exact h a0 y hy

theorem hcs_laws_toAttrKindS : ∀ x ∈ cs_laws_toAttrKindS, CtrOk Tryd.prog x := (conOf_cons ok_laws_toAttrKind conOf_nil)
theorem ok_laws_toAttrKindS : CtrOk Tryd.prog c_laws_toAttrKindS := mk_laws_toAttrKindS hcs_laws_toAttrKindS fun a0 y hy => by
  obtain ⟨n, hn⟩ := toS_ok (t := TyAttrKind) (f := toC TyAttrKind) (fun x h h2 => toC_some h h2) (by_ := 40) (by omega) (fun n xs i out => L_laws_toAttrKindS_0_3_eq n xs i out) hy
  exact ⟨n, (F_laws_toAttrKindS_eq n a0).trans hn⟩
/-! ## laws.toThingType (85) -/
noncomputable def c_laws_toThingType : Ctr := ⟨85, [TyThingType], [TyThingType], fun x => toC TyThingType x.1⟩
def A_laws_toThingType : List (List Nat × Ann) := []
def In_laws_toThingType : List (List Nat × Nat) := []
noncomputable def cs_laws_toThingType : List Ctr := [c_laws_toStringS, c_laws_toAttrKindS]
noncomputable def F_laws_toThingType (n : Nat) (a0 : DThingType) : Option DThingType := run Tryd.prog A_laws_toThingType In_laws_toThingType (conOf cs_laws_toThingType) Tryd.f85 (Tryd.f85.body.getD .skip) (packT [TyThingType]) n (argsV [TyThingType] (a0, ()))
theorem F_laws_toThingType_eq (n : Nat) (a0 : DThingType) : F_laws_toThingType n a0 =
    Option.bind (toC (.list .str) a0.2.1) fun (y1 : (List (List Int))) =>
    Option.bind (toC (.list TyAttrKind) a0.2.2) fun (y2 : (List DAttrKind)) =>
    some (a0.1, y1, y2) := by kernel_rfl
theorem mk_laws_toThingType (hcs : ∀ x ∈ cs_laws_toThingType, CtrOk Tryd.prog x) (h : ∀ (a0 : DThingType) y, toC TyThingType a0 = some y → ∃ n, F_laws_toThingType n a0 = some y) : CtrOk Tryd.prog c_laws_toThingType := by
  refine ctr_of_run (c := c_laws_toThingType) (by kernel_rfl) (by kernel_rfl : Tryd.prog.funcs[85]? = some Tryd.f85) (code := Tryd.f85.body.getD .skip) (by kernel_rfl) (by kernel_rfl) (by kernel_rfl) (A := A_laws_toThingType) (I := In_laws_toThingType) hcs ?_
  rintro ⟨a0, u⟩ y hy
  exact h a0 y hy

theorem hcs_laws_toThingType : ∀ x ∈ cs_laws_toThingType, CtrOk Tryd.prog x := (conOf_cons ok_laws_toStringS (conOf_cons ok_laws_toAttrKindS conOf_nil))
theorem ok_laws_toThingType : CtrOk Tryd.prog c_laws_toThingType := mk_laws_toThingType hcs_laws_toThingType fun a0 y hy => by
  obtain ⟨hw, hs, rfl⟩ := toC_inv hy
  have hw2 : wfD .str y.1 ∧ wfD (.list .str) y.2.1 ∧ wfD (.list TyAttrKind) y.2.2 := hw
  have hs2 : Ty.size .str y.1 + (Ty.size (.list .str) y.2.1 + (Ty.size (.list TyAttrKind) y.2.2)) ≤ 1073741824 := hs
  refine ⟨0, ?_⟩
  rw [F_laws_toThingType_eq]
  try (rw [toC_some hw2.2.1 (by omega)]; simp only [Option.bind_some])
  try (rw [toC_some hw2.2.2 (by omega)]; simp only [Option.bind_some])
  try rfl
/-! ## laws.toThingTypeS (47) -/
noncomputable def c_laws_toThingTypeS : Ctr := ⟨47, [(.list TyThingType)], [(.list TyThingType)], fun x => toC (.list TyThingType) x.1⟩
def A_laws_toThingTypeS : List (List Nat × Ann) := [([0, 3], [.keep 0 0, .keep 0 3, .keep 0 4, .rows 0 7 TyThingType])]
def In_laws_toThingTypeS : List (List Nat × Nat) := []
noncomputable def cs_laws_toThingTypeS : List Ctr := [c_laws_toThingType]
noncomputable def F_laws_toThingTypeS (n : Nat) (a0 : (List DThingType)) : Option (List DThingType) := run Tryd.prog A_laws_toThingTypeS In_laws_toThingTypeS (conOf cs_laws_toThingTypeS) Tryd.f47 (Tryd.f47.body.getD .skip) (packT [(.list TyThingType)]) n (argsV [(.list TyThingType)] (a0, ()))
noncomputable abbrev L_laws_toThingTypeS_0_3 (n : Nat) (x1 : (List DThingType)) (x2 : Int) (x3 : (List DThingType)) : Option (List DThingType) := lam Tryd.prog A_laws_toThingTypeS In_laws_toThingTypeS (conOf cs_laws_toThingTypeS) Tryd.f47 (Tryd.f47.body.getD .skip) (packT [(.list TyThingType)]) n [0, 3] [.d (.list TyThingType) x1, .msl 0 7, .d I64 x2, .d (.list TyThingType) x3]
theorem F_laws_toThingTypeS_eq (n : Nat) (a0 : (List DThingType)) : F_laws_toThingTypeS n a0 =
    bif decide ((a0.length : Int) = (a0.length : Int)) && decide ((0 : Int) ≤ (a0.length : Int)) && decide ((a0.length : Int) * 64 ≤ room) && true then
      L_laws_toThingTypeS_0_3 n a0 0 (List.replicate (Int.toNat (a0.length : Int)) (([] : List Int), [], []))
    else none := by kernel_rfl
theorem L_laws_toThingTypeS_0_3_eq (n : Nat) (x1 : (List DThingType)) (x2 : Int) (x3 : (List DThingType)) : L_laws_toThingTypeS_0_3 (n + 1) x1 x2 x3 =
    bif decide (x2 < (x1.length : Int)) then
      bif inB x2 x1.length then
        Option.bind (toC TyThingType (rd x1 x2 (Ty.dflt TyThingType))) fun (y1 : DThingType) =>
        bif inB x2 x3.length then
          bif inB x2 x3.length && true && true && true && true then
            L_laws_toThingTypeS_0_3 n x1 (IntKind.wrap .i64 (x2 + 1)) (x3.set (Int.toNat x2) y1)
          else none
        else none
      else none
    else
      some x3 := by kernel_rfl
theorem mk_laws_toThingTypeS (hcs : ∀ x ∈ cs_laws_toThingTypeS, CtrOk Tryd.prog x) (h : ∀ (a0 : (List DThingType)) y, toC (.list TyThingType) a0 = some y → ∃ n, F_laws_toThingTypeS n a0 = some y) : CtrOk Tryd.prog c_laws_toThingTypeS := by
  refine ctr_of_run (c := c_laws_toThingTypeS) (by kernel_rfl) (by kernel_rfl : Tryd.prog.funcs[47]? = some Tryd.f47) (code := Tryd.f47.body.getD .skip) (by kernel_rfl) (by kernel_rfl) (by kernel_rfl) (A := A_laws_toThingTypeS) (I := In_laws_toThingTypeS) hcs ?_
  rintro ⟨a0, u⟩ y hy
  exact h a0 y hy

theorem hcs_laws_toThingTypeS : ∀ x ∈ cs_laws_toThingTypeS, CtrOk Tryd.prog x := (conOf_cons ok_laws_toThingType conOf_nil)
theorem ok_laws_toThingTypeS : CtrOk Tryd.prog c_laws_toThingTypeS := mk_laws_toThingTypeS hcs_laws_toThingTypeS fun a0 y hy => by
  obtain ⟨n, hn⟩ := toS_ok (t := TyThingType) (f := toC TyThingType) (fun x h h2 => toC_some h h2) (by_ := 64) (by omega) (fun n xs i out => L_laws_toThingTypeS_0_3_eq n xs i out) hy
  exact ⟨n, (F_laws_toThingTypeS_eq n a0).trans hn⟩
/-! ## laws.toActionType (86) -/
noncomputable def c_laws_toActionType : Ctr := ⟨86, [TyActionType], [TyActionType], fun x => toC TyActionType x.1⟩
def A_laws_toActionType : List (List Nat × Ann) := []
def In_laws_toActionType : List (List Nat × Nat) := []
noncomputable def cs_laws_toActionType : List Ctr := [c_laws_toStringS, c_laws_toAttrKindS]
noncomputable def F_laws_toActionType (n : Nat) (a0 : DActionType) : Option DActionType := run Tryd.prog A_laws_toActionType In_laws_toActionType (conOf cs_laws_toActionType) Tryd.f86 (Tryd.f86.body.getD .skip) (packT [TyActionType]) n (argsV [TyActionType] (a0, ()))
theorem F_laws_toActionType_eq (n : Nat) (a0 : DActionType) : F_laws_toActionType n a0 =
    Option.bind (toC (.list .str) a0.2.1) fun (y1 : (List (List Int))) =>
    Option.bind (toC (.list .str) a0.2.2.1) fun (y2 : (List (List Int))) =>
    Option.bind (toC (.list TyAttrKind) a0.2.2.2) fun (y3 : (List DAttrKind)) =>
    some (a0.1, y1, y2, y3) := by kernel_rfl
theorem mk_laws_toActionType (hcs : ∀ x ∈ cs_laws_toActionType, CtrOk Tryd.prog x) (h : ∀ (a0 : DActionType) y, toC TyActionType a0 = some y → ∃ n, F_laws_toActionType n a0 = some y) : CtrOk Tryd.prog c_laws_toActionType := by
  refine ctr_of_run (c := c_laws_toActionType) (by kernel_rfl) (by kernel_rfl : Tryd.prog.funcs[86]? = some Tryd.f86) (code := Tryd.f86.body.getD .skip) (by kernel_rfl) (by kernel_rfl) (by kernel_rfl) (A := A_laws_toActionType) (I := In_laws_toActionType) hcs ?_
  rintro ⟨a0, u⟩ y hy
  exact h a0 y hy

theorem hcs_laws_toActionType : ∀ x ∈ cs_laws_toActionType, CtrOk Tryd.prog x := (conOf_cons ok_laws_toStringS (conOf_cons ok_laws_toAttrKindS conOf_nil))
theorem ok_laws_toActionType : CtrOk Tryd.prog c_laws_toActionType := mk_laws_toActionType hcs_laws_toActionType fun a0 y hy => by
  obtain ⟨hw, hs, rfl⟩ := toC_inv hy
  have hw2 : wfD .str y.1 ∧ wfD (.list .str) y.2.1 ∧ wfD (.list .str) y.2.2.1 ∧ wfD (.list TyAttrKind) y.2.2.2 := hw
  have hs2 : Ty.size .str y.1 + (Ty.size (.list .str) y.2.1 + (Ty.size (.list .str) y.2.2.1 + (Ty.size (.list TyAttrKind) y.2.2.2))) ≤ 1073741824 := hs
  refine ⟨0, ?_⟩
  rw [F_laws_toActionType_eq]
  try (rw [toC_some hw2.2.1 (by omega)]; simp only [Option.bind_some])
  try (rw [toC_some hw2.2.2.1 (by omega)]; simp only [Option.bind_some])
  try (rw [toC_some hw2.2.2.2 (by omega)]; simp only [Option.bind_some])
  try rfl
/-! ## laws.toActionTypeS (48) -/
noncomputable def c_laws_toActionTypeS : Ctr := ⟨48, [(.list TyActionType)], [(.list TyActionType)], fun x => toC (.list TyActionType) x.1⟩
def A_laws_toActionTypeS : List (List Nat × Ann) := [([0, 3], [.keep 0 0, .keep 0 3, .keep 0 4, .rows 0 7 TyActionType])]
def In_laws_toActionTypeS : List (List Nat × Nat) := []
noncomputable def cs_laws_toActionTypeS : List Ctr := [c_laws_toActionType]
noncomputable def F_laws_toActionTypeS (n : Nat) (a0 : (List DActionType)) : Option (List DActionType) := run Tryd.prog A_laws_toActionTypeS In_laws_toActionTypeS (conOf cs_laws_toActionTypeS) Tryd.f48 (Tryd.f48.body.getD .skip) (packT [(.list TyActionType)]) n (argsV [(.list TyActionType)] (a0, ()))
noncomputable abbrev L_laws_toActionTypeS_0_3 (n : Nat) (x1 : (List DActionType)) (x2 : Int) (x3 : (List DActionType)) : Option (List DActionType) := lam Tryd.prog A_laws_toActionTypeS In_laws_toActionTypeS (conOf cs_laws_toActionTypeS) Tryd.f48 (Tryd.f48.body.getD .skip) (packT [(.list TyActionType)]) n [0, 3] [.d (.list TyActionType) x1, .msl 0 7, .d I64 x2, .d (.list TyActionType) x3]
theorem F_laws_toActionTypeS_eq (n : Nat) (a0 : (List DActionType)) : F_laws_toActionTypeS n a0 =
    bif decide ((a0.length : Int) = (a0.length : Int)) && decide ((0 : Int) ≤ (a0.length : Int)) && decide ((a0.length : Int) * 88 ≤ room) && true then
      L_laws_toActionTypeS_0_3 n a0 0 (List.replicate (Int.toNat (a0.length : Int)) (([] : List Int), [], [], []))
    else none := by kernel_rfl
theorem L_laws_toActionTypeS_0_3_eq (n : Nat) (x1 : (List DActionType)) (x2 : Int) (x3 : (List DActionType)) : L_laws_toActionTypeS_0_3 (n + 1) x1 x2 x3 =
    bif decide (x2 < (x1.length : Int)) then
      bif inB x2 x1.length then
        Option.bind (toC TyActionType (rd x1 x2 (Ty.dflt TyActionType))) fun (y1 : DActionType) =>
        bif inB x2 x3.length then
          bif inB x2 x3.length && true && true && true && true then
            L_laws_toActionTypeS_0_3 n x1 (IntKind.wrap .i64 (x2 + 1)) (x3.set (Int.toNat x2) y1)
          else none
        else none
      else none
    else
      some x3 := by kernel_rfl
theorem mk_laws_toActionTypeS (hcs : ∀ x ∈ cs_laws_toActionTypeS, CtrOk Tryd.prog x) (h : ∀ (a0 : (List DActionType)) y, toC (.list TyActionType) a0 = some y → ∃ n, F_laws_toActionTypeS n a0 = some y) : CtrOk Tryd.prog c_laws_toActionTypeS := by
  refine ctr_of_run (c := c_laws_toActionTypeS) (by kernel_rfl) (by kernel_rfl : Tryd.prog.funcs[48]? = some Tryd.f48) (code := Tryd.f48.body.getD .skip) (by kernel_rfl) (by kernel_rfl) (by kernel_rfl) (A := A_laws_toActionTypeS) (I := In_laws_toActionTypeS) hcs ?_
  rintro ⟨a0, u⟩ y hy
  exact h a0 y hy

theorem hcs_laws_toActionTypeS : ∀ x ∈ cs_laws_toActionTypeS, CtrOk Tryd.prog x := (conOf_cons ok_laws_toActionType conOf_nil)
theorem ok_laws_toActionTypeS : CtrOk Tryd.prog c_laws_toActionTypeS := mk_laws_toActionTypeS hcs_laws_toActionTypeS fun a0 y hy => by
  obtain ⟨n, hn⟩ := toS_ok (t := TyActionType) (f := toC TyActionType) (fun x h h2 => toC_some h h2) (by_ := 88) (by omega) (fun n xs i out => L_laws_toActionTypeS_0_3_eq n xs i out) hy
  exact ⟨n, (F_laws_toActionTypeS_eq n a0).trans hn⟩
/-! ## laws.toPolSchema (13) -/
noncomputable def c_laws_toPolSchema : Ctr := ⟨13, [TyPolSchema], [TyPolSchema], fun x => toC TyPolSchema x.1⟩
def A_laws_toPolSchema : List (List Nat × Ann) := []
def In_laws_toPolSchema : List (List Nat × Nat) := []
noncomputable def cs_laws_toPolSchema : List Ctr := [c_laws_toThingTypeS, c_laws_toActionTypeS]
noncomputable def F_laws_toPolSchema (n : Nat) (a0 : DPolSchema) : Option DPolSchema := run Tryd.prog A_laws_toPolSchema In_laws_toPolSchema (conOf cs_laws_toPolSchema) Tryd.f13 (Tryd.f13.body.getD .skip) (packT [TyPolSchema]) n (argsV [TyPolSchema] (a0, ()))
theorem F_laws_toPolSchema_eq (n : Nat) (a0 : DPolSchema) : F_laws_toPolSchema n a0 =
    Option.bind (toC (.list TyThingType) a0.1) fun (y1 : (List DThingType)) =>
    Option.bind (toC (.list TyActionType) a0.2) fun (y2 : (List DActionType)) =>
    some (y1, y2) := by kernel_rfl
theorem mk_laws_toPolSchema (hcs : ∀ x ∈ cs_laws_toPolSchema, CtrOk Tryd.prog x) (h : ∀ (a0 : DPolSchema) y, toC TyPolSchema a0 = some y → ∃ n, F_laws_toPolSchema n a0 = some y) : CtrOk Tryd.prog c_laws_toPolSchema := by
  refine ctr_of_run (c := c_laws_toPolSchema) (by kernel_rfl) (by kernel_rfl : Tryd.prog.funcs[13]? = some Tryd.f13) (code := Tryd.f13.body.getD .skip) (by kernel_rfl) (by kernel_rfl) (by kernel_rfl) (A := A_laws_toPolSchema) (I := In_laws_toPolSchema) hcs ?_
  rintro ⟨a0, u⟩ y hy
  exact h a0 y hy

theorem hcs_laws_toPolSchema : ∀ x ∈ cs_laws_toPolSchema, CtrOk Tryd.prog x := (conOf_cons ok_laws_toThingTypeS (conOf_cons ok_laws_toActionTypeS conOf_nil))
theorem ok_laws_toPolSchema : CtrOk Tryd.prog c_laws_toPolSchema := mk_laws_toPolSchema hcs_laws_toPolSchema fun a0 y hy => by
  obtain ⟨hw, hs, rfl⟩ := toC_inv hy
  have hw2 : wfD (.list TyThingType) y.1 ∧ wfD (.list TyActionType) y.2 := hw
  have hs2 : Ty.size (.list TyThingType) y.1 + (Ty.size (.list TyActionType) y.2) ≤ 1073741824 := hs
  refine ⟨0, ?_⟩
  rw [F_laws_toPolSchema_eq]
  try (rw [toC_some hw2.1 (by omega)]; simp only [Option.bind_some])
  try (rw [toC_some hw2.2 (by omega)]; simp only [Option.bind_some])
  try rfl
/-! ## laws.eqAttrKind (129) -/
noncomputable def c_laws_eqAttrKind : Ctr := ⟨129, [TyAttrKind, TyAttrKind], [.bool], fun x => eqC TyAttrKind x.1 x.2.1⟩
def A_laws_eqAttrKind : List (List Nat × Ann) := []
def In_laws_eqAttrKind : List (List Nat × Nat) := []
noncomputable def cs_laws_eqAttrKind : List Ctr := []
noncomputable def F_laws_eqAttrKind (n : Nat) (a0 : DAttrKind) (a1 : DAttrKind) : Option Bool := run Tryd.prog A_laws_eqAttrKind In_laws_eqAttrKind (conOf cs_laws_eqAttrKind) Tryd.f129 (Tryd.f129.body.getD .skip) (packT [.bool]) n (argsV [TyAttrKind, TyAttrKind] (a0, a1, ()))
theorem F_laws_eqAttrKind_eq (n : Nat) (a0 : DAttrKind) (a1 : DAttrKind) : F_laws_eqAttrKind n a0 a1 =
    bif !decide (a0.1 = a1.1) then
      some false
    else
      bif !decide (a0.2.1 = a1.2.1) then
        some false
      else
        bif a0.2.2 != a1.2.2 then
          some false
        else
          some true := by kernel_rfl
theorem mk_laws_eqAttrKind (hcs : ∀ x ∈ cs_laws_eqAttrKind, CtrOk Tryd.prog x) (h : ∀ (a0 : DAttrKind) (a1 : DAttrKind) y, eqC TyAttrKind a0 a1 = some y → ∃ n, F_laws_eqAttrKind n a0 a1 = some y) : CtrOk Tryd.prog c_laws_eqAttrKind := by
  refine ctr_of_run (c := c_laws_eqAttrKind) (by kernel_rfl) (by kernel_rfl : Tryd.prog.funcs[129]? = some Tryd.f129) (code := Tryd.f129.body.getD .skip) (by kernel_rfl) (by kernel_rfl) (by kernel_rfl) (A := A_laws_eqAttrKind) (I := In_laws_eqAttrKind) hcs ?_
  rintro ⟨a0, a1, u⟩ y hy
  exact h a0 a1 y hy

theorem hcs_laws_eqAttrKind : ∀ x ∈ cs_laws_eqAttrKind, CtrOk Tryd.prog x := conOf_nil
theorem ok_laws_eqAttrKind : CtrOk Tryd.prog c_laws_eqAttrKind := mk_laws_eqAttrKind hcs_laws_eqAttrKind fun a0 a1 y hy => by
  obtain ⟨rfl, hw, rfl⟩ := eqC_inv hy
  have hw2 : wfD .str a0.1 ∧ wfD .str a0.2.1 ∧ wfD .bool a0.2.2 := hw
  refine ⟨0, ?_⟩
  rw [F_laws_eqAttrKind_eq]
  simp []
/-! ## laws.eqAttrKindS (116) -/
noncomputable def c_laws_eqAttrKindS : Ctr := ⟨116, [(.list TyAttrKind), (.list TyAttrKind)], [.bool], fun x => eqC (.list TyAttrKind) x.1 x.2.1⟩
def A_laws_eqAttrKindS : List (List Nat × Ann) := [([0, 4], [.keep 0 0, .keep 0 1, .keep 0 5])]
def In_laws_eqAttrKindS : List (List Nat × Nat) := []
noncomputable def cs_laws_eqAttrKindS : List Ctr := [c_laws_eqAttrKind]
noncomputable def F_laws_eqAttrKindS (n : Nat) (a0 : (List DAttrKind)) (a1 : (List DAttrKind)) : Option Bool := run Tryd.prog A_laws_eqAttrKindS In_laws_eqAttrKindS (conOf cs_laws_eqAttrKindS) Tryd.f116 (Tryd.f116.body.getD .skip) (packT [.bool]) n (argsV [(.list TyAttrKind), (.list TyAttrKind)] (a0, a1, ()))
noncomputable abbrev L_laws_eqAttrKindS_0_4 (n : Nat) (x1 : (List DAttrKind)) (x2 : (List DAttrKind)) (x3 : Int) : Option Bool := lam Tryd.prog A_laws_eqAttrKindS In_laws_eqAttrKindS (conOf cs_laws_eqAttrKindS) Tryd.f116 (Tryd.f116.body.getD .skip) (packT [.bool]) n [0, 4] [.d (.list TyAttrKind) x1, .d (.list TyAttrKind) x2, .d I64 x3]
theorem F_laws_eqAttrKindS_eq (n : Nat) (a0 : (List DAttrKind)) (a1 : (List DAttrKind)) : F_laws_eqAttrKindS n a0 a1 =
    bif !decide ((a0.length : Int) = (a1.length : Int)) then
      some false
    else
      L_laws_eqAttrKindS_0_4 n a0 a1 0 := by kernel_rfl
theorem L_laws_eqAttrKindS_0_4_eq (n : Nat) (x1 : (List DAttrKind)) (x2 : (List DAttrKind)) (x3 : Int) : L_laws_eqAttrKindS_0_4 (n + 1) x1 x2 x3 =
    bif decide (x3 < (x1.length : Int)) then
      bif inB x3 x1.length then
        bif inB x3 x2.length then
          Option.bind (eqC TyAttrKind (rd x1 x3 (Ty.dflt TyAttrKind)) (rd x2 x3 (Ty.dflt TyAttrKind))) fun (y1 : Bool) =>
          bif !(y1) then
            some false
          else
            L_laws_eqAttrKindS_0_4 n x1 x2 (IntKind.wrap .i64 (x3 + 1))
        else none
      else none
    else
      some true := by kernel_rfl
theorem mk_laws_eqAttrKindS (hcs : ∀ x ∈ cs_laws_eqAttrKindS, CtrOk Tryd.prog x) (h : ∀ (a0 : (List DAttrKind)) (a1 : (List DAttrKind)) y, eqC (.list TyAttrKind) a0 a1 = some y → ∃ n, F_laws_eqAttrKindS n a0 a1 = some y) : CtrOk Tryd.prog c_laws_eqAttrKindS := by
  refine ctr_of_run (c := c_laws_eqAttrKindS) (by kernel_rfl) (by kernel_rfl : Tryd.prog.funcs[116]? = some Tryd.f116) (code := Tryd.f116.body.getD .skip) (by kernel_rfl) (by kernel_rfl) (by kernel_rfl) (A := A_laws_eqAttrKindS) (I := In_laws_eqAttrKindS) hcs ?_
  rintro ⟨a0, a1, u⟩ y hy
  exact h a0 a1 y hy

theorem hcs_laws_eqAttrKindS : ∀ x ∈ cs_laws_eqAttrKindS, CtrOk Tryd.prog x := (conOf_cons ok_laws_eqAttrKind conOf_nil)
theorem ok_laws_eqAttrKindS : CtrOk Tryd.prog c_laws_eqAttrKindS := mk_laws_eqAttrKindS hcs_laws_eqAttrKindS fun a0 a1 y hy => by
  obtain ⟨n, hn⟩ := eqS_ok (t := TyAttrKind) (body := fun x y K => Option.bind (eqC TyAttrKind x y) fun b => bif !b then some false else K ()) (fun x K h => by simp only [eqC_some h, Option.bind_some, Bool.not_true, cond_false]) (fun n xs ys i => L_laws_eqAttrKindS_0_4_eq n xs ys i) hy
  exact ⟨n, (F_laws_eqAttrKindS_eq n a0 a1).trans hn⟩
/-! ## laws.eqThingType (91) -/
noncomputable def c_laws_eqThingType : Ctr := ⟨91, [TyThingType, TyThingType], [.bool], fun x => eqC TyThingType x.1 x.2.1⟩
def A_laws_eqThingType : List (List Nat × Ann) := []
def In_laws_eqThingType : List (List Nat × Nat) := []
noncomputable def cs_laws_eqThingType : List Ctr := [c_laws_eqStringS, c_laws_eqAttrKindS]
noncomputable def F_laws_eqThingType (n : Nat) (a0 : DThingType) (a1 : DThingType) : Option Bool := run Tryd.prog A_laws_eqThingType In_laws_eqThingType (conOf cs_laws_eqThingType) Tryd.f91 (Tryd.f91.body.getD .skip) (packT [.bool]) n (argsV [TyThingType, TyThingType] (a0, a1, ()))
theorem F_laws_eqThingType_eq (n : Nat) (a0 : DThingType) (a1 : DThingType) : F_laws_eqThingType n a0 a1 =
    bif !decide (a0.1 = a1.1) then
      some false
    else
      Option.bind (eqC (.list .str) a0.2.1 a1.2.1) fun (y1 : Bool) =>
      bif !(y1) then
        some false
      else
        Option.bind (eqC (.list TyAttrKind) a0.2.2 a1.2.2) fun (y2 : Bool) =>
        bif !(y2) then
          some false
        else
          some true := by kernel_rfl
theorem mk_laws_eqThingType (hcs : ∀ x ∈ cs_laws_eqThingType, CtrOk Tryd.prog x) (h : ∀ (a0 : DThingType) (a1 : DThingType) y, eqC TyThingType a0 a1 = some y → ∃ n, F_laws_eqThingType n a0 a1 = some y) : CtrOk Tryd.prog c_laws_eqThingType := by
  refine ctr_of_run (c := c_laws_eqThingType) (by kernel_rfl) (by kernel_rfl : Tryd.prog.funcs[91]? = some Tryd.f91) (code := Tryd.f91.body.getD .skip) (by kernel_rfl) (by kernel_rfl) (by kernel_rfl) (A := A_laws_eqThingType) (I := In_laws_eqThingType) hcs ?_
  rintro ⟨a0, a1, u⟩ y hy
  exact h a0 a1 y hy

theorem hcs_laws_eqThingType : ∀ x ∈ cs_laws_eqThingType, CtrOk Tryd.prog x := (conOf_cons ok_laws_eqStringS (conOf_cons ok_laws_eqAttrKindS conOf_nil))
theorem ok_laws_eqThingType : CtrOk Tryd.prog c_laws_eqThingType := mk_laws_eqThingType hcs_laws_eqThingType fun a0 a1 y hy => by
  obtain ⟨rfl, hw, rfl⟩ := eqC_inv hy
  have hw2 : wfD .str a0.1 ∧ wfD (.list .str) a0.2.1 ∧ wfD (.list TyAttrKind) a0.2.2 := hw
  refine ⟨0, ?_⟩
  rw [F_laws_eqThingType_eq]
  simp [eqC_some hw2.2.1, eqC_some hw2.2.2]
/-! ## laws.eqThingTypeS (52) -/
noncomputable def c_laws_eqThingTypeS : Ctr := ⟨52, [(.list TyThingType), (.list TyThingType)], [.bool], fun x => eqC (.list TyThingType) x.1 x.2.1⟩
def A_laws_eqThingTypeS : List (List Nat × Ann) := [([0, 4], [.keep 0 0, .keep 0 1, .keep 0 5])]
def In_laws_eqThingTypeS : List (List Nat × Nat) := []
noncomputable def cs_laws_eqThingTypeS : List Ctr := [c_laws_eqThingType]
noncomputable def F_laws_eqThingTypeS (n : Nat) (a0 : (List DThingType)) (a1 : (List DThingType)) : Option Bool := run Tryd.prog A_laws_eqThingTypeS In_laws_eqThingTypeS (conOf cs_laws_eqThingTypeS) Tryd.f52 (Tryd.f52.body.getD .skip) (packT [.bool]) n (argsV [(.list TyThingType), (.list TyThingType)] (a0, a1, ()))
noncomputable abbrev L_laws_eqThingTypeS_0_4 (n : Nat) (x1 : (List DThingType)) (x2 : (List DThingType)) (x3 : Int) : Option Bool := lam Tryd.prog A_laws_eqThingTypeS In_laws_eqThingTypeS (conOf cs_laws_eqThingTypeS) Tryd.f52 (Tryd.f52.body.getD .skip) (packT [.bool]) n [0, 4] [.d (.list TyThingType) x1, .d (.list TyThingType) x2, .d I64 x3]
theorem F_laws_eqThingTypeS_eq (n : Nat) (a0 : (List DThingType)) (a1 : (List DThingType)) : F_laws_eqThingTypeS n a0 a1 =
    bif !decide ((a0.length : Int) = (a1.length : Int)) then
      some false
    else
      L_laws_eqThingTypeS_0_4 n a0 a1 0 := by kernel_rfl
theorem L_laws_eqThingTypeS_0_4_eq (n : Nat) (x1 : (List DThingType)) (x2 : (List DThingType)) (x3 : Int) : L_laws_eqThingTypeS_0_4 (n + 1) x1 x2 x3 =
    bif decide (x3 < (x1.length : Int)) then
      bif inB x3 x1.length then
        bif inB x3 x2.length then
          Option.bind (eqC TyThingType (rd x1 x3 (Ty.dflt TyThingType)) (rd x2 x3 (Ty.dflt TyThingType))) fun (y1 : Bool) =>
          bif !(y1) then
            some false
          else
            L_laws_eqThingTypeS_0_4 n x1 x2 (IntKind.wrap .i64 (x3 + 1))
        else none
      else none
    else
      some true := by kernel_rfl
theorem mk_laws_eqThingTypeS (hcs : ∀ x ∈ cs_laws_eqThingTypeS, CtrOk Tryd.prog x) (h : ∀ (a0 : (List DThingType)) (a1 : (List DThingType)) y, eqC (.list TyThingType) a0 a1 = some y → ∃ n, F_laws_eqThingTypeS n a0 a1 = some y) : CtrOk Tryd.prog c_laws_eqThingTypeS := by
  refine ctr_of_run (c := c_laws_eqThingTypeS) (by kernel_rfl) (by kernel_rfl : Tryd.prog.funcs[52]? = some Tryd.f52) (code := Tryd.f52.body.getD .skip) (by kernel_rfl) (by kernel_rfl) (by kernel_rfl) (A := A_laws_eqThingTypeS) (I := In_laws_eqThingTypeS) hcs ?_
  rintro ⟨a0, a1, u⟩ y hy
  exact h a0 a1 y hy

theorem hcs_laws_eqThingTypeS : ∀ x ∈ cs_laws_eqThingTypeS, CtrOk Tryd.prog x := (conOf_cons ok_laws_eqThingType conOf_nil)
theorem ok_laws_eqThingTypeS : CtrOk Tryd.prog c_laws_eqThingTypeS := mk_laws_eqThingTypeS hcs_laws_eqThingTypeS fun a0 a1 y hy => by
  obtain ⟨n, hn⟩ := eqS_ok (t := TyThingType) (body := fun x y K => Option.bind (eqC TyThingType x y) fun b => bif !b then some false else K ()) (fun x K h => by simp only [eqC_some h, Option.bind_some, Bool.not_true, cond_false]) (fun n xs ys i => L_laws_eqThingTypeS_0_4_eq n xs ys i) hy
  exact ⟨n, (F_laws_eqThingTypeS_eq n a0 a1).trans hn⟩
/-! ## laws.eqActionType (92) -/
noncomputable def c_laws_eqActionType : Ctr := ⟨92, [TyActionType, TyActionType], [.bool], fun x => eqC TyActionType x.1 x.2.1⟩
def A_laws_eqActionType : List (List Nat × Ann) := []
def In_laws_eqActionType : List (List Nat × Nat) := []
noncomputable def cs_laws_eqActionType : List Ctr := [c_laws_eqStringS, c_laws_eqAttrKindS]
noncomputable def F_laws_eqActionType (n : Nat) (a0 : DActionType) (a1 : DActionType) : Option Bool := run Tryd.prog A_laws_eqActionType In_laws_eqActionType (conOf cs_laws_eqActionType) Tryd.f92 (Tryd.f92.body.getD .skip) (packT [.bool]) n (argsV [TyActionType, TyActionType] (a0, a1, ()))
theorem F_laws_eqActionType_eq (n : Nat) (a0 : DActionType) (a1 : DActionType) : F_laws_eqActionType n a0 a1 =
    bif !decide (a0.1 = a1.1) then
      some false
    else
      Option.bind (eqC (.list .str) a0.2.1 a1.2.1) fun (y1 : Bool) =>
      bif !(y1) then
        some false
      else
        Option.bind (eqC (.list .str) a0.2.2.1 a1.2.2.1) fun (y2 : Bool) =>
        bif !(y2) then
          some false
        else
          Option.bind (eqC (.list TyAttrKind) a0.2.2.2 a1.2.2.2) fun (y3 : Bool) =>
          bif !(y3) then
            some false
          else
            some true := by kernel_rfl
theorem mk_laws_eqActionType (hcs : ∀ x ∈ cs_laws_eqActionType, CtrOk Tryd.prog x) (h : ∀ (a0 : DActionType) (a1 : DActionType) y, eqC TyActionType a0 a1 = some y → ∃ n, F_laws_eqActionType n a0 a1 = some y) : CtrOk Tryd.prog c_laws_eqActionType := by
  refine ctr_of_run (c := c_laws_eqActionType) (by kernel_rfl) (by kernel_rfl : Tryd.prog.funcs[92]? = some Tryd.f92) (code := Tryd.f92.body.getD .skip) (by kernel_rfl) (by kernel_rfl) (by kernel_rfl) (A := A_laws_eqActionType) (I := In_laws_eqActionType) hcs ?_
  rintro ⟨a0, a1, u⟩ y hy
  exact h a0 a1 y hy

theorem hcs_laws_eqActionType : ∀ x ∈ cs_laws_eqActionType, CtrOk Tryd.prog x := (conOf_cons ok_laws_eqStringS (conOf_cons ok_laws_eqAttrKindS conOf_nil))
theorem ok_laws_eqActionType : CtrOk Tryd.prog c_laws_eqActionType := mk_laws_eqActionType hcs_laws_eqActionType fun a0 a1 y hy => by
  obtain ⟨rfl, hw, rfl⟩ := eqC_inv hy
  have hw2 : wfD .str a0.1 ∧ wfD (.list .str) a0.2.1 ∧ wfD (.list .str) a0.2.2.1 ∧ wfD (.list TyAttrKind) a0.2.2.2 := hw
  refine ⟨0, ?_⟩
  rw [F_laws_eqActionType_eq]
  simp [eqC_some hw2.2.1, eqC_some hw2.2.2.1, eqC_some hw2.2.2.2]
/-! ## laws.eqActionTypeS (53) -/
noncomputable def c_laws_eqActionTypeS : Ctr := ⟨53, [(.list TyActionType), (.list TyActionType)], [.bool], fun x => eqC (.list TyActionType) x.1 x.2.1⟩
def A_laws_eqActionTypeS : List (List Nat × Ann) := [([0, 4], [.keep 0 0, .keep 0 1, .keep 0 5])]
def In_laws_eqActionTypeS : List (List Nat × Nat) := []
noncomputable def cs_laws_eqActionTypeS : List Ctr := [c_laws_eqActionType]
noncomputable def F_laws_eqActionTypeS (n : Nat) (a0 : (List DActionType)) (a1 : (List DActionType)) : Option Bool := run Tryd.prog A_laws_eqActionTypeS In_laws_eqActionTypeS (conOf cs_laws_eqActionTypeS) Tryd.f53 (Tryd.f53.body.getD .skip) (packT [.bool]) n (argsV [(.list TyActionType), (.list TyActionType)] (a0, a1, ()))
noncomputable abbrev L_laws_eqActionTypeS_0_4 (n : Nat) (x1 : (List DActionType)) (x2 : (List DActionType)) (x3 : Int) : Option Bool := lam Tryd.prog A_laws_eqActionTypeS In_laws_eqActionTypeS (conOf cs_laws_eqActionTypeS) Tryd.f53 (Tryd.f53.body.getD .skip) (packT [.bool]) n [0, 4] [.d (.list TyActionType) x1, .d (.list TyActionType) x2, .d I64 x3]
theorem F_laws_eqActionTypeS_eq (n : Nat) (a0 : (List DActionType)) (a1 : (List DActionType)) : F_laws_eqActionTypeS n a0 a1 =
    bif !decide ((a0.length : Int) = (a1.length : Int)) then
      some false
    else
      L_laws_eqActionTypeS_0_4 n a0 a1 0 := by kernel_rfl
theorem L_laws_eqActionTypeS_0_4_eq (n : Nat) (x1 : (List DActionType)) (x2 : (List DActionType)) (x3 : Int) : L_laws_eqActionTypeS_0_4 (n + 1) x1 x2 x3 =
    bif decide (x3 < (x1.length : Int)) then
      bif inB x3 x1.length then
        bif inB x3 x2.length then
          Option.bind (eqC TyActionType (rd x1 x3 (Ty.dflt TyActionType)) (rd x2 x3 (Ty.dflt TyActionType))) fun (y1 : Bool) =>
          bif !(y1) then
            some false
          else
            L_laws_eqActionTypeS_0_4 n x1 x2 (IntKind.wrap .i64 (x3 + 1))
        else none
      else none
    else
      some true := by kernel_rfl
theorem mk_laws_eqActionTypeS (hcs : ∀ x ∈ cs_laws_eqActionTypeS, CtrOk Tryd.prog x) (h : ∀ (a0 : (List DActionType)) (a1 : (List DActionType)) y, eqC (.list TyActionType) a0 a1 = some y → ∃ n, F_laws_eqActionTypeS n a0 a1 = some y) : CtrOk Tryd.prog c_laws_eqActionTypeS := by
  refine ctr_of_run (c := c_laws_eqActionTypeS) (by kernel_rfl) (by kernel_rfl : Tryd.prog.funcs[53]? = some Tryd.f53) (code := Tryd.f53.body.getD .skip) (by kernel_rfl) (by kernel_rfl) (by kernel_rfl) (A := A_laws_eqActionTypeS) (I := In_laws_eqActionTypeS) hcs ?_
  rintro ⟨a0, a1, u⟩ y hy
  exact h a0 a1 y hy

theorem hcs_laws_eqActionTypeS : ∀ x ∈ cs_laws_eqActionTypeS, CtrOk Tryd.prog x := (conOf_cons ok_laws_eqActionType conOf_nil)
theorem ok_laws_eqActionTypeS : CtrOk Tryd.prog c_laws_eqActionTypeS := mk_laws_eqActionTypeS hcs_laws_eqActionTypeS fun a0 a1 y hy => by
  obtain ⟨n, hn⟩ := eqS_ok (t := TyActionType) (body := fun x y K => Option.bind (eqC TyActionType x y) fun b => bif !b then some false else K ()) (fun x K h => by simp only [eqC_some h, Option.bind_some, Bool.not_true, cond_false]) (fun n xs ys i => L_laws_eqActionTypeS_0_4_eq n xs ys i) hy
  exact ⟨n, (F_laws_eqActionTypeS_eq n a0 a1).trans hn⟩
/-! ## laws.eqPolSchema (15) -/
noncomputable def c_laws_eqPolSchema : Ctr := ⟨15, [TyPolSchema, TyPolSchema], [.bool], fun x => eqC TyPolSchema x.1 x.2.1⟩
def A_laws_eqPolSchema : List (List Nat × Ann) := []
def In_laws_eqPolSchema : List (List Nat × Nat) := []
noncomputable def cs_laws_eqPolSchema : List Ctr := [c_laws_eqThingTypeS, c_laws_eqActionTypeS]
noncomputable def F_laws_eqPolSchema (n : Nat) (a0 : DPolSchema) (a1 : DPolSchema) : Option Bool := run Tryd.prog A_laws_eqPolSchema In_laws_eqPolSchema (conOf cs_laws_eqPolSchema) Tryd.f15 (Tryd.f15.body.getD .skip) (packT [.bool]) n (argsV [TyPolSchema, TyPolSchema] (a0, a1, ()))
theorem F_laws_eqPolSchema_eq (n : Nat) (a0 : DPolSchema) (a1 : DPolSchema) : F_laws_eqPolSchema n a0 a1 =
    Option.bind (eqC (.list TyThingType) a0.1 a1.1) fun (y1 : Bool) =>
    bif !(y1) then
      some false
    else
      Option.bind (eqC (.list TyActionType) a0.2 a1.2) fun (y2 : Bool) =>
      bif !(y2) then
        some false
      else
        some true := by kernel_rfl
theorem mk_laws_eqPolSchema (hcs : ∀ x ∈ cs_laws_eqPolSchema, CtrOk Tryd.prog x) (h : ∀ (a0 : DPolSchema) (a1 : DPolSchema) y, eqC TyPolSchema a0 a1 = some y → ∃ n, F_laws_eqPolSchema n a0 a1 = some y) : CtrOk Tryd.prog c_laws_eqPolSchema := by
  refine ctr_of_run (c := c_laws_eqPolSchema) (by kernel_rfl) (by kernel_rfl : Tryd.prog.funcs[15]? = some Tryd.f15) (code := Tryd.f15.body.getD .skip) (by kernel_rfl) (by kernel_rfl) (by kernel_rfl) (A := A_laws_eqPolSchema) (I := In_laws_eqPolSchema) hcs ?_
  rintro ⟨a0, a1, u⟩ y hy
  exact h a0 a1 y hy

theorem hcs_laws_eqPolSchema : ∀ x ∈ cs_laws_eqPolSchema, CtrOk Tryd.prog x := (conOf_cons ok_laws_eqThingTypeS (conOf_cons ok_laws_eqActionTypeS conOf_nil))
theorem ok_laws_eqPolSchema : CtrOk Tryd.prog c_laws_eqPolSchema := mk_laws_eqPolSchema hcs_laws_eqPolSchema fun a0 a1 y hy => by
  obtain ⟨rfl, hw, rfl⟩ := eqC_inv hy
  have hw2 : wfD (.list TyThingType) a0.1 ∧ wfD (.list TyActionType) a0.2 := hw
  refine ⟨0, ?_⟩
  rw [F_laws_eqPolSchema_eq]
  simp [eqC_some hw2.1, eqC_some hw2.2]
/-! ## laws.FnExactGoodPolSchema (4) -/
noncomputable def P_laws_FnExactGoodPolSchema (g0 : (List ((List Int) × Int))) (a0 : DPolSchema) : Option Bool :=
  Option.bind (szC TyPolSchema a0 1048576) fun (y1 : Int) =>
  bif decide (y1 < 0) then
    some true
  else
    Option.bind (toC TyPolSchema a0) fun (y2 : DPolSchema) =>
    Option.bind (P_spec_GoodPolSchema y2) fun (y3 : Bool) =>
    Option.bind (toC TyPolSchema a0) fun (y4 : DPolSchema) =>
    Option.bind (P_impl_GoodPolSchema g0 y4) fun (y5 : Bool) =>
    bif y5 != y3 then
      some false
    else
      Option.bind (toC TyPolSchema a0) fun (y6 : DPolSchema) =>
      Option.bind (eqC TyPolSchema y4 y6) fun (y7 : Bool) =>
      bif !(y7) then
        some false
      else
        some true
def A_laws_FnExactGoodPolSchema : List (List Nat × Ann) := []
def In_laws_FnExactGoodPolSchema : List (List Nat × Nat) := []
noncomputable def cs_laws_FnExactGoodPolSchema (g0 : (List ((List Int) × Int))) : List Ctr := [c_laws_szPolSchema, c_laws_toPolSchema, c_spec_GoodPolSchema, (c_impl_GoodPolSchema g0), c_laws_eqPolSchema]
noncomputable def F_laws_FnExactGoodPolSchema (g0 : (List ((List Int) × Int))) (n : Nat) (a0 : DPolSchema) : Option Bool := runE Tryd.prog (glOf [(0, explode (.map .str I64) g0)]) A_laws_FnExactGoodPolSchema In_laws_FnExactGoodPolSchema (conOf (cs_laws_FnExactGoodPolSchema g0)) Tryd.f4 (Tryd.f4.body.getD .skip) (endD Tryd.prog Tryd.f4 (packT [.bool])) n (argsV [TyPolSchema] (a0, ()))
theorem F_laws_FnExactGoodPolSchema_eq (g0 : (List ((List Int) × Int))) (n : Nat) (a0 : DPolSchema) : F_laws_FnExactGoodPolSchema g0 n a0 =
    Option.bind (szC TyPolSchema a0 1048576) fun (y1 : Int) =>
    bif decide (y1 < 0) then
      some true
    else
      Option.bind (toC TyPolSchema a0) fun (y2 : DPolSchema) =>
      Option.bind (P_spec_GoodPolSchema y2) fun (y3 : Bool) =>
      Option.bind (toC TyPolSchema a0) fun (y4 : DPolSchema) =>
      Option.bind (P_impl_GoodPolSchema g0 y4) fun (y5 : Bool) =>
      bif y5 != y3 then
        some false
      else
        Option.bind (toC TyPolSchema a0) fun (y6 : DPolSchema) =>
        Option.bind (eqC TyPolSchema y4 y6) fun (y7 : Bool) =>
        bif !(y7) then
          some false
        else
          some true := by kernel_rfl
theorem S_laws_FnExactGoodPolSchema {g0 : (List ((List Int) × Int))} (a0 : DPolSchema) {r : Bool} (h : P_laws_FnExactGoodPolSchema g0 a0 = some r) : Ev (fun n => F_laws_FnExactGoodPolSchema g0 n a0) r := by
  rw [P_laws_FnExactGoodPolSchema] at h
  refine Ev.of_eq ?_ (fun n => F_laws_FnExactGoodPolSchema_eq g0 n a0)
  exact (Ev.ofBind h fun y1 h => (Ev.ofBif h (fun h => (Ev.ofSome h)) (fun h => (Ev.ofBind h fun y2 h => (Ev.ofBind h fun y3 h => (Ev.ofBind h fun y4 h => (Ev.ofBind h fun y5 h => (Ev.ofBif h (fun h => (Ev.ofSome h)) (fun h => (Ev.ofBind h fun y6 h => (Ev.ofBind h fun y7 h => (Ev.ofBif h (fun h => (Ev.ofSome h)) (fun h => (Ev.ofSome h))))))))))))))

end Go.Ab
