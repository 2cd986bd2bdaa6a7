/-
  'laws.FnExactGoodRoleSet' returns true for all arguments, and its arguments read as they did; no condition.
-/
import Derived.Test.YthnejijnpepgjaaOkRole
import Derived.Test.YthnejijnpepgjaaRows
namespace Go.Ab
open Go.Proofs

theorem hcs_laws_FnExactGoodRoleSet : ∀ x ∈ cs_laws_FnExactGoodRoleSet, CtrOk Try.prog x := (conOf_cons ok_laws_szRoleSet (conOf_cons ok_laws_toRoleSet (conOf_cons ok_spec_GoodRoleSet (conOf_cons ok_impl_GoodRoleSet (conOf_cons ok_laws_eqRoleSet conOf_nil)))))
theorem own_GoodRoleSet : ownKnob Try.prog.godebug = none := by kernel_rfl
theorem laidOut_GoodRoleSet : laidOutB Try.prog = true := by kernel_rfl

set_option maxRecDepth 100000 in
theorem lifted_GoodRoleSet (os : Os) (started : os.Started) (H : Type) (enc : TypeId × Value → H) :
    ReturnsInHanded {} Try.checked os 3 .any (Ythnejijnpepgjaa.Rows.fnExactGoodRoleSetSpec.pre6 enc Try.prog Try.f3 Ythnejijnpepgjaa.Rows.fnExactGoodRoleSetRow.domain false) (Ythnejijnpepgjaa.Rows.fnExactGoodRoleSetSpec.post enc Try.prog Try.f3 false true false false) := by
  refine law_lifted (C := Try.checked) (f := 3) (fn := Try.f3) own_GoodRoleSet started (by kernel_rfl) (by kernel_rfl)
    (ChangeSpec.witness6 (enc := enc) (C := Try.checked) false ⟨#[], #[.agg #[.slice none 0 0, .slice none 0 0, .slice none 0 0]], []⟩ 12 (by kernel_rfl) (by kernel_rfl) (by kernel_rfl) (by kernel_rfl))
    laidOut_GoodRoleSet (by kernel_rfl) rfl (tb := 4) (by kernel_rfl) (by kernel_rfl) ?_ (tys := [TyRoleSet]) (by kernel_rfl) (c := Try.f3.body.getD .skip) (by kernel_rfl) (by kernel_rfl) (A := A_laws_FnExactGoodRoleSet) (I := In_laws_FnExactGoodRoleSet) (conOf_ok hcs_laws_FnExactGoodRoleSet) ?_
  · intro ds hd
    have hd : ds.length = 1 := hd
    match ds, hd with
    | [a0], _ => rfl
  · rintro ⟨a0, u⟩ hw
    exact (S_laws_FnExactGoodRoleSet a0 (law_GoodRoleSet a0 hw.1)).get

end Go.Ab
namespace Go.Proofs.Ythnejijnpepgjaa
open Go.Ab
theorem fnExactGoodRoleSet_holds : Rows.FnExactGoodRoleSetSaid :=
  OpenClaim.holds_of_wide 3 Try.f3 rfl rfl rfl rfl rfl rfl rfl ⟨rfl, rfl, rfl, rfl, rfl⟩ rfl rfl rfl rfl rfl (by kernel_rfl) (by kernel_rfl : Try.prog.funcs[3]? = some Try.f3) (by kernel_rfl)
    (of_decide_eq_true (by kernel_rfl)) (by unfold Func.isWrapper; first | (rw [if_pos (by decide +kernel)]; kernel_rfl) | (rw [if_neg (by decide +kernel)]; exact ⟨rfl, rfl⟩))
    (fun os started H enc _ => lifted_GoodRoleSet os started H enc)
end Go.Proofs.Ythnejijnpepgjaa
