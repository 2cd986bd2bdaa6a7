/-
  'laws.FnExactRunTries' returns true for all arguments, and its arguments read as they did; no condition.
-/
import Derived.Test.YtjlabbgoonebhaaOkTries
import Derived.Test.YtjlabbgoonebhaaRows
namespace Go.Ab
open Go.Proofs

theorem hcs_laws_FnExactRunTries : ∀ x ∈ cs_laws_FnExactRunTries, CtrOk Try.prog x := (conOf_cons ok_laws_szTryS (conOf_cons ok_laws_toTryS (conOf_cons ok_spec_RunTries (conOf_cons okd_laws_toTryS (conOf_cons okd_impl_RunTries (conOf_cons ok_laws_eqIntS (conOf_cons ok_laws_eqTryS (conOf_cons okh_laws_markTryS (conOf_cons okh_laws_markIntS (conOf_cons ok_laws_heldIntS (conOf_cons ok_impl_RunTries conOf_nil)))))))))))
theorem own_RunTries : ownKnob Try.prog.godebug = none := by kernel_rfl
theorem laidOut_RunTries : laidOutB Try.prog = true := by kernel_rfl

set_option maxRecDepth 100000 in
theorem lifted_RunTries (os : Os) (started : os.Started) (H : Type) (enc : TypeId × Value → H) :
    ReturnsInHanded {} Try.checked os 4 .any (Ytjlabbgoonebhaa.Rows.fnExactRunTriesSpec.pre6 enc Try.prog Try.f4 Ytjlabbgoonebhaa.Rows.fnExactRunTriesRow.domain false) (Ytjlabbgoonebhaa.Rows.fnExactRunTriesSpec.post enc Try.prog Try.f4 false true false false) := by
  refine law_lifted (C := Try.checked) (f := 4) (fn := Try.f4) own_RunTries started (by kernel_rfl) (by kernel_rfl)
    (ChangeSpec.witness6 (enc := enc) (C := Try.checked) false ⟨#[], #[.slice none 0 0], []⟩ 12 (by kernel_rfl) (by kernel_rfl) (by kernel_rfl) (by kernel_rfl))
    laidOut_RunTries (by kernel_rfl) rfl (tb := 4) (by kernel_rfl) (by kernel_rfl) ?_ (tys := [(.list TyTry)]) (by kernel_rfl) (c := Try.f4.body.getD .skip) (by kernel_rfl) (by kernel_rfl) (A := A_laws_FnExactRunTries) (I := In_laws_FnExactRunTries) (conOf_ok hcs_laws_FnExactRunTries) ?_
  · intro ds hd
    have hd : ds.length = 1 := hd
    match ds, hd with
    | [a0], _ => rfl
  · rintro ⟨a0, u⟩ hw
    exact (S_laws_FnExactRunTries a0 (law_RunTries a0 hw.1)).get

end Go.Ab
namespace Go.Proofs.Ytjlabbgoonebhaa
open Go.Ab
theorem fnExactRunTries_holds : Rows.FnExactRunTriesSaid :=
  OpenClaim.holds_of_wide 4 Try.f4 rfl rfl rfl rfl rfl rfl rfl ⟨rfl, rfl, rfl, rfl, rfl⟩ rfl rfl rfl rfl rfl (by kernel_rfl) (by kernel_rfl : Try.prog.funcs[4]? = some Try.f4) (by kernel_rfl)
    (of_decide_eq_true (by kernel_rfl)) (by unfold Func.isWrapper; first | (rw [if_pos (by decide +kernel)]; kernel_rfl) | (rw [if_neg (by decide +kernel)]; exact ⟨rfl, rfl⟩))
    (fun os started H enc _ => lifted_RunTries os started H enc)
end Go.Proofs.Ytjlabbgoonebhaa
