import Derived.Test.YtafopbigcffjgaaGreatAb41
import Derived.Shelf.Lay
import Derived.Ground.SlsfProg
import Derived.Test.YtafopbigcffjgaaGreatProg
import Derived.KernelRfl
namespace Go.Proofs
open Go.Shelf Go.Sort Go.RowKit
shelf_lay_g SlLaysF0.n6 Slsf 6 at Tryz 23 as Tryz.sortAtoms
end Go.Proofs
namespace Go.Ab
open Go.Proofs
theorem QsG {f : ES [QaT,QaT] → Option Int} (h : Qh Tryz.prog ⟨24,[QaT,QaT],[.int .i64],f⟩) (hf : ∀ a b,f (a,b,()) = some (Jr a b)) : QpN Tryz.prog 23 24 UQ 4 Qm7 :=
 QpR Tryz.sortAtoms (Qte (by kernel_rfl)) (QsF (by kernel_rfl)) (by kernel_rfl) (by kernel_rfl) h hf
end Go.Ab
