/-
  'laws.FnExactPassHash' returns true for all arguments, and its arguments read as they did; no condition.
-/
import Derived.Test.YtcoepmcddmnnhaaOkPassH
import Derived.Test.YtcoepmcddmnnhaaRows
namespace Go.Ab
open Go.Proofs

theorem hcs_laws_FnExactPassHash : ∀ x ∈ cs_laws_FnExactPassHash, CtrOk Try.prog x := (conOf_cons ok_laws_toByteS (conOf_cons ok_spec_PassHash (conOf_cons okd_laws_toByteS (conOf_cons okd_impl_PassHash (conOf_cons ok_laws_eqByteS (conOf_cons okh_laws_markByteS (conOf_cons ok_laws_heldByteS (conOf_cons ok_impl_PassHash conOf_nil))))))))
theorem own_PassHash : ownKnob Try.prog.godebug = none := by kernel_rfl
theorem laidOut_PassHash : laidOutB Try.prog = true := by kernel_rfl

set_option maxRecDepth 100000 in
theorem lifted_PassHash (os : Os) (started : os.Started) (H : Type) (enc : TypeId × Value → H) :
    ReturnsInHanded {} Try.checked os 3 .any (Ytcoepmcddmnnhaa.Rows.fnExactPassHashSpec.pre6 enc Try.prog Try.f3 Ytcoepmcddmnnhaa.Rows.fnExactPassHashRow.domain false) (Ytcoepmcddmnnhaa.Rows.fnExactPassHashSpec.post enc Try.prog Try.f3 false true false false) := by
  refine law_lifted (C := Try.checked) (f := 3) (fn := Try.f3) own_PassHash started (by kernel_rfl) (by kernel_rfl)
    (ChangeSpec.witness6 (enc := enc) (C := Try.checked) false ⟨#[], #[.string .empty, .slice none 0 0, .int .i64 0], []⟩ 12 (by kernel_rfl) (by kernel_rfl) (by kernel_rfl) (by kernel_rfl))
    laidOut_PassHash (by kernel_rfl) rfl (tb := 4) (by kernel_rfl) (by kernel_rfl) ?_ (tys := [.str, (.list U8), I64]) (by kernel_rfl) (c := Try.f3.body.getD .skip) (by kernel_rfl) (by kernel_rfl) (A := A_laws_FnExactPassHash) (I := In_laws_FnExactPassHash) (conOf_ok hcs_laws_FnExactPassHash) ?_
  · intro ds hd
    have hd : ds.length = 3 := hd
    match ds, hd with
    | [a0, a1, a2], _ => rfl
  · rintro ⟨a0, a1, a2, u⟩ hw
    exact (S_laws_FnExactPassHash a0 a1 a2 (law_PassHash a0 a1 a2 hw.1 hw.2.1 hw.2.2.1)).get

end Go.Ab
namespace Go.Proofs.Ytcoepmcddmnnhaa
open Go.Ab
theorem fnExactPassHash_holds : Rows.FnExactPassHashSaid :=
  OpenClaim.holds_of_wide 3 Try.f3 rfl rfl rfl rfl rfl rfl rfl ⟨rfl, rfl, rfl, rfl, rfl⟩ rfl rfl rfl rfl rfl (by kernel_rfl) (by kernel_rfl : Try.prog.funcs[3]? = some Try.f3) (by kernel_rfl)
    (of_decide_eq_true (by kernel_rfl)) (by unfold Func.isWrapper; first | (rw [if_pos (by decide +kernel)]; kernel_rfl) | (rw [if_neg (by decide +kernel)]; exact ⟨rfl, rfl⟩))
    (fun os started H enc _ => lifted_PassHash os started H enc)
end Go.Proofs.Ytcoepmcddmnnhaa
