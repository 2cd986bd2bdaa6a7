/-
  'laws.FnExactAnswerChallenge' returns true for all arguments, and its arguments read as they did; no condition.
-/
import Derived.Test.YtcoepmcddmnnhaaOkAns
import Derived.Test.YtcoepmcddmnnhaaRows
namespace Go.Ab
open Go.Proofs
theorem Vt : ∀ x ∈ JN,Qu Try.prog x:=(Qc Qbx (Qc XU (Qc XZ (Qc QaS (Qc QbA Qm)))))
theorem Wi : ownKnob Try.prog.godebug = none:=by kernel_rfl
theorem X1 : laidOutB Try.prog = true:=by kernel_rfl
set_option maxRecDepth 100000 in
theorem Hv (os : Os) (started : os.Started) (H : Type) (enc : TypeId × Value → H) :
  ReturnsInHanded {} Try.checked os 5 .any (Ytcoepmcddmnnhaa.Rows.fnExactAnswerChallengeSpec.pre6 enc Try.prog Try.f5 Ytcoepmcddmnnhaa.Rows.fnExactAnswerChallengeRow.domain false) (Ytcoepmcddmnnhaa.Rows.fnExactAnswerChallengeSpec.post enc Try.prog Try.f5 false true false false):=by
 refine QfS (C:=Try.checked) (f:=5) (fn:=Try.f5) Wi started (by kernel_rfl) (by kernel_rfl)
  (ChangeSpec.witness6 (enc:=enc) (C:=Try.checked) false ⟨#[],#[.int .i64 0,.string .empty,.slice none 0 0,.int .i64 0],[]⟩ 12 (by kernel_rfl) (by kernel_rfl) (by kernel_rfl) (by kernel_rfl))
  X1 (by kernel_rfl) rfl (tb:=4) (by kernel_rfl) (by kernel_rfl) ?_ (tys:=[I64,.str,(.list U8),I64]) (by kernel_rfl) (c:=Try.f5.body.getD .skip) (by kernel_rfl) (by kernel_rfl) (A:=JP) (I:=JM) (EI Vt) ?_
 ·intro ds hd
  have hd : ds.length = 4:=hd
  match ds,hd with
  | [a0,a1,a2,a3],_=>rfl
 ·rintro ⟨a0,a1,a2,a3,u⟩ hw
  exact (V0 a0 a1 a2 a3 (Wh a0 a1 a2 a3 hw.1 hw.2.1 hw.2.2.1 hw.2.2.2.1)).get
end Go.Ab
namespace Go.Proofs.Ytcoepmcddmnnhaa
open Go.Ab
theorem fnExactAnswerChallenge_holds : Rows.FnExactAnswerChallengeSaid :=
 OpenClaim.holds_of_wide 5 Try.f5 rfl rfl rfl rfl rfl rfl rfl ⟨rfl,rfl,rfl,rfl,rfl⟩ rfl rfl rfl rfl rfl (by kernel_rfl) (by kernel_rfl : Try.prog.funcs[5]? = some Try.f5) (by kernel_rfl)
  (of_decide_eq_true (by kernel_rfl)) (by unfold Func.isWrapper; first | (rw [if_pos (by decide +kernel)]; kernel_rfl) | (rw [if_neg (by decide +kernel)]; exact ⟨rfl,rfl⟩))
  (fun os started H enc _=>Hv os started H enc)
end Go.Proofs.Ytcoepmcddmnnhaa
