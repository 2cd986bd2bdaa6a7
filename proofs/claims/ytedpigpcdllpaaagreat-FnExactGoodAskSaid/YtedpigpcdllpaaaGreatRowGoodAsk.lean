/-
  'laws.FnExactGoodAsk' returns true for all arguments, and its arguments read as they did; no condition.
-/
import Derived.Test.YtedpigpcdllpaaaGreatAskI
import Derived.Test.YtedpigpcdllpaaaGreatRows
namespace Go.Ab
open Go.Proofs
theorem Qkl : ∀ x ∈ Qco,Qo Tryz.prog x:=(Ql QpO (Ql QAv (Ql Qp0 (Ql QAx (Ql Qxk (Ql Qxw (Ql Qqc Qt)))))))
theorem QC2 : ownKnob Tryz.prog.godebug = none:=by kernel_rfl
theorem QxR : laidOutB Tryz.prog = true:=by kernel_rfl
set_option maxRecDepth 100000 in
theorem QzV (os : Os) (started : os.Started) (H : Type) (enc : TypeId × Value → H) :
  ReturnsInHanded {} Tryz.checked os 4 .any (YtedpigpcdllpaaaGreat.Rows.fnExactGoodAskSpec.pre6 enc Tryz.prog Tryz.f4 YtedpigpcdllpaaaGreat.Rows.fnExactGoodAskRow.domain false) (YtedpigpcdllpaaaGreat.Rows.fnExactGoodAskSpec.post enc Tryz.prog Tryz.f4 false true false false):=by
 refine QDy (C:=Tryz.checked) (f:=4) (fn:=Tryz.f4) QC2 started (by kernel_rfl) (by kernel_rfl)
  (ChangeSpec.witness6 (enc:=enc) (C:=Tryz.checked) false ⟨#[],#[.agg #[.slice none 0 0,.slice none 0 0],.agg #[.string .empty,.string .empty,.string .empty,.string .empty,.string .empty,.string .empty]],[]⟩ 12 (by kernel_rfl) (by kernel_rfl) (by kernel_rfl) (by kernel_rfl))
  QxR (by kernel_rfl) rfl (tb:=4) (by kernel_rfl) (by kernel_rfl) ?_ (tys:=[Qi,G7]) (by kernel_rfl) (c:=Tryz.f4.body.getD .skip) (by kernel_rfl) (by kernel_rfl) (A:=QcJ) (I:=Qcn) (Qi9 Qkl) ?_
 ·intro ds hd
  have hd : ds.length = 2:=hd
  match ds,hd with
  | [a0,a1],_=>rfl
 ·rintro ⟨a0,a1,u⟩ hw
  exact (QmX a0 a1 (QC1 a0 a1 hw.1 hw.2.1)).get
end Go.Ab
namespace Go.Proofs.YtedpigpcdllpaaaGreat
open Go.Ab
theorem fnExactGoodAsk_holds : Rows.FnExactGoodAskSaid :=
 OpenClaim.holds_of_wide 4 Tryz.f4 rfl rfl rfl rfl rfl rfl rfl ⟨rfl,rfl,rfl,rfl,rfl⟩ rfl rfl rfl rfl rfl (by kernel_rfl) (by kernel_rfl : Tryz.prog.funcs[4]? = some Tryz.f4) (by kernel_rfl)
  (of_decide_eq_true (by kernel_rfl)) (by unfold Func.isWrapper; first | (rw [if_pos (by decide +kernel)]; kernel_rfl) | (rw [if_neg (by decide +kernel)]; exact ⟨rfl,rfl⟩))
  (fun os started H enc _=>QzV os started H enc)
end Go.Proofs.YtedpigpcdllpaaaGreat
