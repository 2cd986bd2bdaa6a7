import Derived.Test.YtcoepmcddmnnhaaAb16
namespace Go.Ab
variable {R : Type}
section
variable {P : Program} {base : Nat} {w0 : Orig} {dp nn : Nat} {st : St} {θ : Nat → Nat → Value} {M : Me} {a : Act} {w w' : World}
def Ty.flat : Ty → Bool
 | .int _ | .bool | .str | .unit=>true
 | .pair a b=>a.flat && b.flat
 | _=>false
end
end Go.Ab
