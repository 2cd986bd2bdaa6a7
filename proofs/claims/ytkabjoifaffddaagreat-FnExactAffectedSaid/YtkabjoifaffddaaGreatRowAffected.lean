/-
  'laws.FnExactAffected' returns true for all arguments, and its arguments read as they did; no condition.
-/
import Derived.Test.YtkabjoifaffddaaGreatAffA
import Derived.Test.YtkabjoifaffddaaGreatRows
namespace Go.Ab
open Go.Proofs
theorem Qv7:ownKnob Tryz.prog.godebug=none:=by kernel_rfl
theorem Qqr:laidOutB Tryz.prog=true:=by kernel_rfl
set_option maxRecDepth 100000 in
theorem QrH (os:Os) (started:os.Started) (H:Type) (enc:TypeId × Value→H) :
  ReturnsInHanded {} Tryz.checked os 3 .any (YtkabjoifaffddaaGreat.Rows.fnExactAffectedSpec.pre6 enc Tryz.prog Tryz.f3 YtkabjoifaffddaaGreat.Rows.fnExactAffectedRow.domain false) (YtkabjoifaffddaaGreat.Rows.fnExactAffectedSpec.post enc Tryz.prog Tryz.f3 false true false false):=by
 refine QxN (C:=Tryz.checked) (f:=3) (fn:=Tryz.f3) Qv7 started (by kernel_rfl) (by kernel_rfl)
  (ChangeSpec.witness6 (enc:=enc) (C:=Tryz.checked) false ⟨#[],#[.agg #[.slice none 0 0,.slice none 0 0],.slice none 0 0],[]⟩ 12 (by kernel_rfl) (by kernel_rfl) (by kernel_rfl) (by kernel_rfl))
  Qqr (by kernel_rfl) rfl (tb:=4) (by kernel_rfl) (by kernel_rfl) ?_ (tys:=[Qe,(.list QE)]) (by kernel_rfl) (c:=Tryz.f3.body.getD .skip) (by kernel_rfl) (by kernel_rfl) (A:=Ve.A) (I:=Ve.I) (QgL Qgs) ?_
 ·intro ds hd
  have hd:ds.length=2:=hd
  match ds,hd with
  | [a0,a1],_=>rfl
 ·rintro ⟨a0,a1,u⟩ hw
  exact (Qid a0 a1 _ (Qv6 a0 a1 hw.1 hw.2.1)).get
end Go.Ab
namespace Go.Proofs.YtkabjoifaffddaaGreat
open Go.Ab
theorem fnExactAffected_holds:Rows.FnExactAffectedSaid :=
 OpenClaim.holds_of_wide 3 Tryz.f3 rfl rfl rfl rfl rfl rfl rfl ⟨rfl,rfl,rfl,rfl,rfl⟩ rfl rfl rfl rfl rfl (by kernel_rfl) (by kernel_rfl:Tryz.prog.funcs[3]? = some Tryz.f3) (by kernel_rfl)
  (of_decide_eq_true (by kernel_rfl)) (by unfold Func.isWrapper;first | (rw [if_pos (by decide +kernel)];kernel_rfl) | (rw [if_neg (by decide +kernel)];exact ⟨rfl,rfl⟩))
  (fun os started H enc _=>QrH os started H enc)
end Go.Proofs.YtkabjoifaffddaaGreat
