/-
  'laws.FnExactGoodRequest' returns true for all arguments, and its arguments read as they did; no condition.
-/
import Derived.Test.YthnejijnpepgjaaOkVal
import Derived.Test.YthnejijnpepgjaaRows
namespace Go.Ab
open Go.Proofs

theorem hcs_laws_FnExactGoodRequest : ∀ x ∈ cs_laws_FnExactGoodRequest, CtrOk Try.prog x := (conOf_cons ok_laws_szRequest (conOf_cons ok_laws_toRequest (conOf_cons ok_spec_GoodRequest (conOf_cons ok_impl_GoodRequest (conOf_cons ok_laws_eqRequest conOf_nil)))))
theorem own_GoodRequest : ownKnob Try.prog.godebug = none := by kernel_rfl
theorem laidOut_GoodRequest : laidOutB Try.prog = true := by kernel_rfl

set_option maxRecDepth 100000 in
theorem lifted_GoodRequest (os : Os) (started : os.Started) (H : Type) (enc : TypeId × Value → H) :
    ReturnsInHanded {} Try.checked os 4 .any (Ythnejijnpepgjaa.Rows.fnExactGoodRequestSpec.pre6 enc Try.prog Try.f4 Ythnejijnpepgjaa.Rows.fnExactGoodRequestRow.domain false) (Ythnejijnpepgjaa.Rows.fnExactGoodRequestSpec.post enc Try.prog Try.f4 false true false false) := by
  refine law_lifted (C := Try.checked) (f := 4) (fn := Try.f4) own_GoodRequest started (by kernel_rfl) (by kernel_rfl)
    (ChangeSpec.witness6 (enc := enc) (C := Try.checked) false ⟨#[], #[.agg #[.int .i64 0, .int .i64 0, .string .empty, .string .empty, .int .i64 0, .int .i64 0, .string .empty, .string .empty, .int .i64 0, .int .i64 0, .string .empty, .string .empty, .slice none 0 0, .slice none 0 0]], []⟩ 12 (by kernel_rfl) (by kernel_rfl) (by kernel_rfl) (by kernel_rfl))
    laidOut_GoodRequest (by kernel_rfl) rfl (tb := 4) (by kernel_rfl) (by kernel_rfl) ?_ (tys := [TyRequest]) (by kernel_rfl) (c := Try.f4.body.getD .skip) (by kernel_rfl) (by kernel_rfl) (A := A_laws_FnExactGoodRequest) (I := In_laws_FnExactGoodRequest) (conOf_ok hcs_laws_FnExactGoodRequest) ?_
  · intro ds hd
    have hd : ds.length = 1 := hd
    match ds, hd with
    | [a0], _ => rfl
  · rintro ⟨a0, u⟩ hw
    exact (S_laws_FnExactGoodRequest a0 (law_GoodRequest a0 hw.1)).get

end Go.Ab
namespace Go.Proofs.Ythnejijnpepgjaa
open Go.Ab
theorem fnExactGoodRequest_holds : Rows.FnExactGoodRequestSaid :=
  OpenClaim.holds_of_wide 4 Try.f4 rfl rfl rfl rfl rfl rfl rfl ⟨rfl, rfl, rfl, rfl, rfl⟩ rfl rfl rfl rfl rfl (by kernel_rfl) (by kernel_rfl : Try.prog.funcs[4]? = some Try.f4) (by kernel_rfl)
    (of_decide_eq_true (by kernel_rfl)) (by unfold Func.isWrapper; first | (rw [if_pos (by decide +kernel)]; kernel_rfl) | (rw [if_neg (by decide +kernel)]; exact ⟨rfl, rfl⟩))
    (fun os started H enc _ => lifted_GoodRequest os started H enc)
end Go.Proofs.Ythnejijnpepgjaa
