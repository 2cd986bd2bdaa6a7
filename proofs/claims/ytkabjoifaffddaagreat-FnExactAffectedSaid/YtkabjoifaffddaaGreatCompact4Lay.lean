import Derived.Test.YtkabjoifaffddaaGreatAb42
import Derived.Shelf.Lay
import Derived.Test.YtkabjoifaffddaaGreatProg
import Derived.KernelRfl
namespace Go.Proofs
open Go.Shelf Go.Sort Go.RowKit
set_option maxRecDepth 100000
shelf_lay Lays.n194 Nm 194 at Tryz as Tryz.compactS
end Go.Proofs
namespace Go.Ab
open Go.Proofs
theorem Qzs:CompactS Tryz.prog 164:=⟨by kernel_rfl,fun blk off cap zs w h1 h2 h3=>Any.slices_Compact_string Tryz.compactS blk off cap zs w h1 h2 h3,fun a cap w=>Any.slices_Compact_string_empty Tryz.compactS a cap w⟩
end Go.Ab
