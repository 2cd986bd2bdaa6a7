/-
  'laws.FnExactKeptApart' returns true for all arguments, and its arguments read as they did; no condition.
-/
import Derived.Test.YtlhbebagmkeghaaOkKept
import Derived.Test.YtlhbebagmkeghaaRows
namespace Go.Ab
open Go.Proofs

theorem hcs_laws_FnExactKeptApart : ∀ x ∈ cs_laws_FnExactKeptApart, CtrOk Try.prog x := (conOf_cons ok_laws_szRoleSet (conOf_cons ok_laws_szRoleState (conOf_cons ok_laws_toRoleSet (conOf_cons ok_laws_toRoleState (conOf_cons ok_spec_KeptApart (conOf_cons ok_impl_KeptApart (conOf_cons ok_laws_eqRoleSet (conOf_cons ok_laws_eqRoleState conOf_nil))))))))
theorem own_KeptApart : ownKnob Try.prog.godebug = none := by kernel_rfl
theorem laidOut_KeptApart : laidOutB Try.prog = true := by kernel_rfl

set_option maxRecDepth 100000 in
theorem lifted_KeptApart (os : Os) (started : os.Started) (H : Type) (enc : TypeId × Value → H) :
    ReturnsInHanded {} Try.checked os 4 .any (Ytlhbebagmkeghaa.Rows.fnExactKeptApartSpec.pre6 enc Try.prog Try.f4 Ytlhbebagmkeghaa.Rows.fnExactKeptApartRow.domain false) (Ytlhbebagmkeghaa.Rows.fnExactKeptApartSpec.post enc Try.prog Try.f4 false true false false) := by
  refine law_lifted (C := Try.checked) (f := 4) (fn := Try.f4) own_KeptApart started (by kernel_rfl) (by kernel_rfl)
    (ChangeSpec.witness6 (enc := enc) (C := Try.checked) false ⟨#[], #[.agg #[.slice none 0 0, .slice none 0 0, .slice none 0 0], .agg #[.slice none 0 0, .slice none 0 0, .slice none 0 0, .int .i64 0], .int .i64 0], []⟩ 12 (by kernel_rfl) (by kernel_rfl) (by kernel_rfl) (by kernel_rfl))
    laidOut_KeptApart (by kernel_rfl) rfl (tb := 4) (by kernel_rfl) (by kernel_rfl) ?_ (tys := [TyRoleSet, TyRoleState, I64]) (by kernel_rfl) (c := Try.f4.body.getD .skip) (by kernel_rfl) (by kernel_rfl) (A := A_laws_FnExactKeptApart) (I := In_laws_FnExactKeptApart) (conOf_ok hcs_laws_FnExactKeptApart) ?_
  · intro ds hd
    have hd : ds.length = 3 := hd
    match ds, hd with
    | [a0, a1, a2], _ => rfl
  · rintro ⟨a0, a1, a2, u⟩ hw
    exact (S_laws_FnExactKeptApart a0 a1 a2 (law_KeptApart a0 a1 a2 hw.1 hw.2.1 hw.2.2.1)).get

end Go.Ab
namespace Go.Proofs.Ytlhbebagmkeghaa
open Go.Ab
theorem fnExactKeptApart_holds : Rows.FnExactKeptApartSaid :=
  OpenClaim.holds_of_wide 4 Try.f4 rfl rfl rfl rfl rfl rfl rfl ⟨rfl, rfl, rfl, rfl, rfl⟩ rfl rfl rfl rfl rfl (by kernel_rfl) (by kernel_rfl : Try.prog.funcs[4]? = some Try.f4) (by kernel_rfl)
    (of_decide_eq_true (by kernel_rfl)) (by unfold Func.isWrapper; first | (rw [if_pos (by decide +kernel)]; kernel_rfl) | (rw [if_neg (by decide +kernel)]; exact ⟨rfl, rfl⟩))
    (fun os started H enc _ => lifted_KeptApart os started H enc)
end Go.Proofs.Ytlhbebagmkeghaa
