/-
  'laws.FnExactGoodThings' returns true for all arguments, and its arguments read as they did; no condition.
-/
import Derived.Test.YthnejijnpepgjaaOkVal
import Derived.Test.YthnejijnpepgjaaRows
namespace Go.Ab
open Go.Proofs

theorem hcs_laws_FnExactGoodThings : ∀ x ∈ cs_laws_FnExactGoodThings, CtrOk Try.prog x := (conOf_cons ok_laws_szThingS (conOf_cons ok_laws_toThingS (conOf_cons ok_spec_GoodThings (conOf_cons ok_impl_GoodThings (conOf_cons ok_laws_eqThingS conOf_nil)))))
theorem own_GoodThings : ownKnob Try.prog.godebug = none := by kernel_rfl
theorem laidOut_GoodThings : laidOutB Try.prog = true := by kernel_rfl

set_option maxRecDepth 100000 in
theorem lifted_GoodThings (os : Os) (started : os.Started) (H : Type) (enc : TypeId × Value → H) :
    ReturnsInHanded {} Try.checked os 5 .any (Ythnejijnpepgjaa.Rows.fnExactGoodThingsSpec.pre6 enc Try.prog Try.f5 Ythnejijnpepgjaa.Rows.fnExactGoodThingsRow.domain false) (Ythnejijnpepgjaa.Rows.fnExactGoodThingsSpec.post enc Try.prog Try.f5 false true false false) := by
  refine law_lifted (C := Try.checked) (f := 5) (fn := Try.f5) own_GoodThings started (by kernel_rfl) (by kernel_rfl)
    (ChangeSpec.witness6 (enc := enc) (C := Try.checked) false ⟨#[], #[.slice none 0 0], []⟩ 12 (by kernel_rfl) (by kernel_rfl) (by kernel_rfl) (by kernel_rfl))
    laidOut_GoodThings (by kernel_rfl) rfl (tb := 4) (by kernel_rfl) (by kernel_rfl) ?_ (tys := [(.list TyThing)]) (by kernel_rfl) (c := Try.f5.body.getD .skip) (by kernel_rfl) (by kernel_rfl) (A := A_laws_FnExactGoodThings) (I := In_laws_FnExactGoodThings) (conOf_ok hcs_laws_FnExactGoodThings) ?_
  · intro ds hd
    have hd : ds.length = 1 := hd
    match ds, hd with
    | [a0], _ => rfl
  · rintro ⟨a0, u⟩ hw
    exact (S_laws_FnExactGoodThings a0 (law_GoodThings a0 hw.1)).get

end Go.Ab
namespace Go.Proofs.Ythnejijnpepgjaa
open Go.Ab
theorem fnExactGoodThings_holds : Rows.FnExactGoodThingsSaid :=
  OpenClaim.holds_of_wide 5 Try.f5 rfl rfl rfl rfl rfl rfl rfl ⟨rfl, rfl, rfl, rfl, rfl⟩ rfl rfl rfl rfl rfl (by kernel_rfl) (by kernel_rfl : Try.prog.funcs[5]? = some Try.f5) (by kernel_rfl)
    (of_decide_eq_true (by kernel_rfl)) (by unfold Func.isWrapper; first | (rw [if_pos (by decide +kernel)]; kernel_rfl) | (rw [if_neg (by decide +kernel)]; exact ⟨rfl, rfl⟩))
    (fun os started H enc _ => lifted_GoodThings os started H enc)
end Go.Proofs.Ythnejijnpepgjaa
