/-
  'laws.FnExactAuthorised' returns true for all arguments, and its arguments read as they did; no condition.
-/
import Derived.Test.YtaaehcjdphienaaGreatOkAuth
import Derived.Test.YtaaehcjdphienaaGreatRows
namespace Go.Ab
open Go.Proofs

theorem hcs_laws_FnExactAuthorised : ∀ x ∈ cs_laws_FnExactAuthorised, CtrOk Tryz.prog x := (conOf_cons ok_laws_szRoleSet (conOf_cons ok_laws_szRoleState (conOf_cons ok_laws_toRoleSet (conOf_cons ok_laws_toRoleState (conOf_cons ok_spec_Authorised (conOf_cons okd_laws_toRoleSet (conOf_cons okd_laws_toRoleState (conOf_cons okd_impl_Authorised (conOf_cons ok_laws_eqStringS (conOf_cons ok_laws_eqRoleSet (conOf_cons ok_laws_eqRoleState (conOf_cons okh_laws_markRoleSet (conOf_cons okh_laws_markRoleState (conOf_cons okh_laws_markStringS (conOf_cons ok_laws_heldStringS (conOf_cons ok_impl_Authorised conOf_nil))))))))))))))))
theorem own_Authorised : ownKnob Tryz.prog.godebug = none := by kernel_rfl
theorem laidOut_Authorised : laidOutB Tryz.prog = true := by kernel_rfl

set_option maxRecDepth 100000 in
theorem lifted_Authorised (os : Os) (started : os.Started) (H : Type) (enc : TypeId × Value → H) :
    ReturnsInHanded {} Tryz.checked os 3 .any (YtaaehcjdphienaaGreat.Rows.fnExactAuthorisedSpec.pre6 enc Tryz.prog Tryz.f3 YtaaehcjdphienaaGreat.Rows.fnExactAuthorisedRow.domain false) (YtaaehcjdphienaaGreat.Rows.fnExactAuthorisedSpec.post enc Tryz.prog Tryz.f3 false true false false) := by
  refine law_lifted (C := Tryz.checked) (f := 3) (fn := Tryz.f3) own_Authorised started (by kernel_rfl) (by kernel_rfl)
    (ChangeSpec.witness6 (enc := enc) (C := Tryz.checked) false ⟨#[], #[.agg #[.slice none 0 0, .slice none 0 0, .slice none 0 0], .agg #[.slice none 0 0, .slice none 0 0, .slice none 0 0, .int .i64 0], .string .empty, .int .i64 0], []⟩ 12 (by kernel_rfl) (by kernel_rfl) (by kernel_rfl) (by kernel_rfl))
    laidOut_Authorised (by kernel_rfl) rfl (tb := 4) (by kernel_rfl) (by kernel_rfl) ?_ (tys := [TyRoleSet, TyRoleState, .str, I64]) (by kernel_rfl) (c := Tryz.f3.body.getD .skip) (by kernel_rfl) (by kernel_rfl) (A := A_laws_FnExactAuthorised) (I := In_laws_FnExactAuthorised) (conOf_ok hcs_laws_FnExactAuthorised) ?_
  · intro ds hd
    have hd : ds.length = 4 := hd
    match ds, hd with
    | [a0, a1, a2, a3], _ => rfl
  · rintro ⟨a0, a1, a2, a3, u⟩ hw
    exact (S_laws_FnExactAuthorised a0 a1 a2 a3 (law_Authorised a0 a1 a2 a3 hw.1 hw.2.1 hw.2.2.1 hw.2.2.2.1)).get

end Go.Ab
namespace Go.Proofs.YtaaehcjdphienaaGreat
open Go.Ab
theorem fnExactAuthorised_holds : Rows.FnExactAuthorisedSaid :=
  OpenClaim.holds_of_wide 3 Tryz.f3 rfl rfl rfl rfl rfl rfl rfl ⟨rfl, rfl, rfl, rfl, rfl⟩ rfl rfl rfl rfl rfl (by kernel_rfl) (by kernel_rfl : Tryz.prog.funcs[3]? = some Tryz.f3) (by kernel_rfl)
    (of_decide_eq_true (by kernel_rfl)) (by unfold Func.isWrapper; first | (rw [if_pos (by decide +kernel)]; kernel_rfl) | (rw [if_neg (by decide +kernel)]; exact ⟨rfl, rfl⟩))
    (fun os started H enc _ => lifted_Authorised os started H enc)
end Go.Proofs.YtaaehcjdphienaaGreat
