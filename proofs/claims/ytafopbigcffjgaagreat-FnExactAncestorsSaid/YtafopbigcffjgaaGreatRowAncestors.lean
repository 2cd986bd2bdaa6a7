/-
  'laws.FnExactAncestors' returns true for all arguments, and its arguments read as they did; no condition.
-/
import Derived.Test.YtafopbigcffjgaaGreatOkAnc
import Derived.Test.YtafopbigcffjgaaGreatRows
namespace Go.Ab
open Go.Proofs
theorem ET : ∀ x ∈ YM,Qh Tryz.prog x:=(Qd Qkw (Qd Hr (Qd Qkj (Qd Yi (Qd Qii (Qd QiO (Qd Qhe (Qd Wq (Qd QkE (Qd QfO (Qd Qhg (Qd QiQ (Qd QiC Qj)))))))))))))
theorem QnM : ownKnob Tryz.prog.godebug = none:=by kernel_rfl
theorem Qjb : laidOutB Tryz.prog = true:=by kernel_rfl
set_option maxRecDepth 100000 in
theorem QkM (os : Os) (started : os.Started) (H : Type) (enc : TypeId × Value → H) :
  ReturnsInHanded {} Tryz.checked os 3 .any (YtafopbigcffjgaaGreat.Rows.fnExactAncestorsSpec.pre6 enc Tryz.prog Tryz.f3 YtafopbigcffjgaaGreat.Rows.fnExactAncestorsRow.domain false) (YtafopbigcffjgaaGreat.Rows.fnExactAncestorsSpec.post enc Tryz.prog Tryz.f3 false true false false):=by
 refine Qqq (C:=Tryz.checked) (f:=3) (fn:=Tryz.f3) QnM started (by kernel_rfl) (by kernel_rfl)
  (ChangeSpec.witness6 (enc:=enc) (C:=Tryz.checked) false ⟨#[],#[.slice none 0 0,.agg #[.int .i64 0,.int .i64 0,.string .empty,.string .empty]],[]⟩ 12 (by kernel_rfl) (by kernel_rfl) (by kernel_rfl) (by kernel_rfl))
  Qjb (by kernel_rfl) rfl (tb:=4) (by kernel_rfl) (by kernel_rfl) ?_ (tys:=[(.list Qc),Qa]) (by kernel_rfl) (c:=Tryz.f3.body.getD .skip) (by kernel_rfl) (by kernel_rfl) (A:=Y9) (I:=YL) (QhR ET) ?_
 ·intro ds hd
  have hd : ds.length = 2:=hd
  match ds,hd with
  | [a0,a1],_=>rfl
 ·rintro ⟨a0,a1,u⟩ hw
  exact (QbH a0 a1 (QnL a0 a1 hw.1 hw.2.1)).get
end Go.Ab
namespace Go.Proofs.YtafopbigcffjgaaGreat
open Go.Ab
theorem fnExactAncestors_holds : Rows.FnExactAncestorsSaid :=
 OpenClaim.holds_of_wide 3 Tryz.f3 rfl rfl rfl rfl rfl rfl rfl ⟨rfl,rfl,rfl,rfl,rfl⟩ rfl rfl rfl rfl rfl (by kernel_rfl) (by kernel_rfl : Tryz.prog.funcs[3]? = some Tryz.f3) (by kernel_rfl)
  (of_decide_eq_true (by kernel_rfl)) (by unfold Func.isWrapper; first | (rw [if_pos (by decide +kernel)]; kernel_rfl) | (rw [if_neg (by decide +kernel)]; exact ⟨rfl,rfl⟩))
  (fun os started H enc _=>QkM os started H enc)
end Go.Proofs.YtafopbigcffjgaaGreat
