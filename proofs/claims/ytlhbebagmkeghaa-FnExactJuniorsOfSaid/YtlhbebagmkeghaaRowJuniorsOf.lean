/-
  'laws.FnExactJuniorsOf' returns true for all arguments, and its arguments read as they did; no condition.
-/
import Derived.Test.YtlhbebagmkeghaaOkJun
import Derived.Test.YtlhbebagmkeghaaRows
namespace Go.Ab
open Go.Proofs

theorem hcs_laws_FnExactJuniorsOf : ∀ x ∈ cs_laws_FnExactJuniorsOf, CtrOk Try.prog x := (conOf_cons ok_laws_szRoleSet (conOf_cons ok_laws_toRoleSet (conOf_cons ok_spec_JuniorsOf (conOf_cons okd_laws_toRoleSet (conOf_cons okd_impl_JuniorsOf (conOf_cons ok_laws_eqStringS (conOf_cons ok_laws_eqRoleSet (conOf_cons okh_laws_markRoleSet (conOf_cons okh_laws_markStringS (conOf_cons ok_laws_heldStringS (conOf_cons ok_impl_JuniorsOf conOf_nil)))))))))))
theorem own_JuniorsOf : ownKnob Try.prog.godebug = none := by kernel_rfl
theorem laidOut_JuniorsOf : laidOutB Try.prog = true := by kernel_rfl

set_option maxRecDepth 100000 in
theorem lifted_JuniorsOf (os : Os) (started : os.Started) (H : Type) (enc : TypeId × Value → H) :
    ReturnsInHanded {} Try.checked os 5 .any (Ytlhbebagmkeghaa.Rows.fnExactJuniorsOfSpec.pre6 enc Try.prog Try.f5 Ytlhbebagmkeghaa.Rows.fnExactJuniorsOfRow.domain false) (Ytlhbebagmkeghaa.Rows.fnExactJuniorsOfSpec.post enc Try.prog Try.f5 false true false false) := by
  refine law_lifted (C := Try.checked) (f := 5) (fn := Try.f5) own_JuniorsOf started (by kernel_rfl) (by kernel_rfl)
    (ChangeSpec.witness6 (enc := enc) (C := Try.checked) false ⟨#[], #[.agg #[.slice none 0 0, .slice none 0 0, .slice none 0 0], .string .empty], []⟩ 12 (by kernel_rfl) (by kernel_rfl) (by kernel_rfl) (by kernel_rfl))
    laidOut_JuniorsOf (by kernel_rfl) rfl (tb := 4) (by kernel_rfl) (by kernel_rfl) ?_ (tys := [TyRoleSet, .str]) (by kernel_rfl) (c := Try.f5.body.getD .skip) (by kernel_rfl) (by kernel_rfl) (A := A_laws_FnExactJuniorsOf) (I := In_laws_FnExactJuniorsOf) (conOf_ok hcs_laws_FnExactJuniorsOf) ?_
  · intro ds hd
    have hd : ds.length = 2 := hd
    match ds, hd with
    | [a0, a1], _ => rfl
  · rintro ⟨a0, a1, u⟩ hw
    exact (S_laws_FnExactJuniorsOf a0 a1 (law_JuniorsOf a0 a1 hw.1 hw.2.1)).get

end Go.Ab
namespace Go.Proofs.Ytlhbebagmkeghaa
open Go.Ab
theorem fnExactJuniorsOf_holds : Rows.FnExactJuniorsOfSaid :=
  OpenClaim.holds_of_wide 5 Try.f5 rfl rfl rfl rfl rfl rfl rfl ⟨rfl, rfl, rfl, rfl, rfl⟩ rfl rfl rfl rfl rfl (by kernel_rfl) (by kernel_rfl : Try.prog.funcs[5]? = some Try.f5) (by kernel_rfl)
    (of_decide_eq_true (by kernel_rfl)) (by unfold Func.isWrapper; first | (rw [if_pos (by decide +kernel)]; kernel_rfl) | (rw [if_neg (by decide +kernel)]; exact ⟨rfl, rfl⟩))
    (fun os started H enc _ => lifted_JuniorsOf os started H enc)
end Go.Proofs.Ytlhbebagmkeghaa
