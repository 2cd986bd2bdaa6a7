/-
  'laws.FnExactPassCheck' returns true for all arguments, and its arguments read as they did; no condition.
-/
import Derived.Test.YtcoepmcddmnnhaaOkPassC
import Derived.Test.YtcoepmcddmnnhaaRows
namespace Go.Ab
open Go.Proofs

theorem hcs_laws_FnExactPassCheck : ∀ x ∈ cs_laws_FnExactPassCheck, CtrOk Try.prog x := (conOf_cons ok_laws_szStored (conOf_cons ok_laws_toStored (conOf_cons ok_spec_PassCheck (conOf_cons ok_impl_PassCheck (conOf_cons ok_laws_eqStored conOf_nil)))))
theorem own_PassCheck : ownKnob Try.prog.godebug = none := by kernel_rfl
theorem laidOut_PassCheck : laidOutB Try.prog = true := by kernel_rfl

set_option maxRecDepth 100000 in
theorem lifted_PassCheck (os : Os) (started : os.Started) (H : Type) (enc : TypeId × Value → H) :
    ReturnsInHanded {} Try.checked os 4 .any (Ytcoepmcddmnnhaa.Rows.fnExactPassCheckSpec.pre6 enc Try.prog Try.f4 Ytcoepmcddmnnhaa.Rows.fnExactPassCheckRow.domain false) (Ytcoepmcddmnnhaa.Rows.fnExactPassCheckSpec.post enc Try.prog Try.f4 false true false false) := by
  refine law_lifted (C := Try.checked) (f := 4) (fn := Try.f4) own_PassCheck started (by kernel_rfl) (by kernel_rfl)
    (ChangeSpec.witness6 (enc := enc) (C := Try.checked) false ⟨#[], #[.agg #[.slice none 0 0, .int .i64 0, .slice none 0 0], .string .empty], []⟩ 12 (by kernel_rfl) (by kernel_rfl) (by kernel_rfl) (by kernel_rfl))
    laidOut_PassCheck (by kernel_rfl) rfl (tb := 4) (by kernel_rfl) (by kernel_rfl) ?_ (tys := [TyStored, .str]) (by kernel_rfl) (c := Try.f4.body.getD .skip) (by kernel_rfl) (by kernel_rfl) (A := A_laws_FnExactPassCheck) (I := In_laws_FnExactPassCheck) (conOf_ok hcs_laws_FnExactPassCheck) ?_
  · intro ds hd
    have hd : ds.length = 2 := hd
    match ds, hd with
    | [a0, a1], _ => rfl
  · rintro ⟨a0, a1, u⟩ hw
    exact (S_laws_FnExactPassCheck a0 a1 (law_PassCheck a0 a1 hw.1 hw.2.1)).get

end Go.Ab
namespace Go.Proofs.Ytcoepmcddmnnhaa
open Go.Ab
theorem fnExactPassCheck_holds : Rows.FnExactPassCheckSaid :=
  OpenClaim.holds_of_wide 4 Try.f4 rfl rfl rfl rfl rfl rfl rfl ⟨rfl, rfl, rfl, rfl, rfl⟩ rfl rfl rfl rfl rfl (by kernel_rfl) (by kernel_rfl : Try.prog.funcs[4]? = some Try.f4) (by kernel_rfl)
    (of_decide_eq_true (by kernel_rfl)) (by unfold Func.isWrapper; first | (rw [if_pos (by decide +kernel)]; kernel_rfl) | (rw [if_neg (by decide +kernel)]; exact ⟨rfl, rfl⟩))
    (fun os started H enc _ => lifted_PassCheck os started H enc)
end Go.Proofs.Ytcoepmcddmnnhaa
