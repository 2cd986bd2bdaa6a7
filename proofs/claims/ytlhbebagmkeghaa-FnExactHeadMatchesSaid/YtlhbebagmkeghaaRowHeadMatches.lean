/-
  'laws.FnExactHeadMatches' returns true for all arguments, and its arguments read as they did; no condition.
-/
import Derived.Test.YtlhbebagmkeghaaOkHead
import Derived.Test.YtlhbebagmkeghaaRows
namespace Go.Ab
open Go.Proofs

theorem hcs_laws_FnExactHeadMatches : ∀ x ∈ cs_laws_FnExactHeadMatches, CtrOk Try.prog x := (conOf_cons ok_laws_szThingS (conOf_cons ok_laws_szHead (conOf_cons ok_laws_szAtom (conOf_cons ok_laws_toThingS (conOf_cons ok_laws_toHead (conOf_cons ok_laws_toAtom (conOf_cons ok_spec_HeadMatches (conOf_cons ok_impl_HeadMatches (conOf_cons ok_laws_eqThingS conOf_nil)))))))))
theorem own_HeadMatches : ownKnob Try.prog.godebug = none := by kernel_rfl
theorem laidOut_HeadMatches : laidOutB Try.prog = true := by kernel_rfl

set_option maxRecDepth 100000 in
theorem lifted_HeadMatches (os : Os) (started : os.Started) (H : Type) (enc : TypeId × Value → H) :
    ReturnsInHanded {} Try.checked os 3 .any (Ytlhbebagmkeghaa.Rows.fnExactHeadMatchesSpec.pre6 enc Try.prog Try.f3 Ytlhbebagmkeghaa.Rows.fnExactHeadMatchesRow.domain false) (Ytlhbebagmkeghaa.Rows.fnExactHeadMatchesSpec.post enc Try.prog Try.f3 false true false false) := by
  refine law_lifted (C := Try.checked) (f := 3) (fn := Try.f3) own_HeadMatches started (by kernel_rfl) (by kernel_rfl)
    (ChangeSpec.witness6 (enc := enc) (C := Try.checked) false ⟨#[], #[.slice none 0 0, .agg #[.int .i64 0, .int .i64 0, .int .i64 0, .string .empty, .string .empty, .string .empty], .agg #[.int .i64 0, .int .i64 0, .string .empty, .string .empty]], []⟩ 12 (by kernel_rfl) (by kernel_rfl) (by kernel_rfl) (by kernel_rfl))
    laidOut_HeadMatches (by kernel_rfl) rfl (tb := 4) (by kernel_rfl) (by kernel_rfl) ?_ (tys := [(.list TyThing), TyHead, TyAtom]) (by kernel_rfl) (c := Try.f3.body.getD .skip) (by kernel_rfl) (by kernel_rfl) (A := A_laws_FnExactHeadMatches) (I := In_laws_FnExactHeadMatches) (conOf_ok hcs_laws_FnExactHeadMatches) ?_
  · intro ds hd
    have hd : ds.length = 3 := hd
    match ds, hd with
    | [a0, a1, a2], _ => rfl
  · rintro ⟨a0, a1, a2, u⟩ hw
    exact (S_laws_FnExactHeadMatches a0 a1 a2 (law_HeadMatches a0 a1 a2 hw.1 hw.2.1 hw.2.2.1)).get

end Go.Ab
namespace Go.Proofs.Ytlhbebagmkeghaa
open Go.Ab
theorem fnExactHeadMatches_holds : Rows.FnExactHeadMatchesSaid :=
  OpenClaim.holds_of_wide 3 Try.f3 rfl rfl rfl rfl rfl rfl rfl ⟨rfl, rfl, rfl, rfl, rfl⟩ rfl rfl rfl rfl rfl (by kernel_rfl) (by kernel_rfl : Try.prog.funcs[3]? = some Try.f3) (by kernel_rfl)
    (of_decide_eq_true (by kernel_rfl)) (by unfold Func.isWrapper; first | (rw [if_pos (by decide +kernel)]; kernel_rfl) | (rw [if_neg (by decide +kernel)]; exact ⟨rfl, rfl⟩))
    (fun os started H enc _ => lifted_HeadMatches os started H enc)
end Go.Proofs.Ytlhbebagmkeghaa
