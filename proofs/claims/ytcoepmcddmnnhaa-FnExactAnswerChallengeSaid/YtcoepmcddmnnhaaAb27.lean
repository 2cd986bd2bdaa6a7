import Derived.Test.YtcoepmcddmnnhaaAb26
namespace Go.Ab
section
variable {P : Program} {L : Pl} {nn : Nat} {s s' : TS} {k k' : Int} {us : List Value} {a : Act} {w0 w : World} {arr0 : Array Value} {T0 : TypeId} {cs cs' : List V} {bs : List Nat} {E : TEnv}
def After (E : TEnv) (L : Pl) (nn : Nat) (w0 : World) (arr0 : Array Value) (T0 : TypeId) (bs : List Nat) (s : TS) (us : List Value) (s' : TS) (cs' : List V) (k' : Int) (a' : Act) (w' : World) : Prop :=
 ∃ us',(s.mv ≤ s'.mv ∧ (s'.mv = s.mv → us' = us)) ∧ SimV L nn s' k' us' a' ∧ Mem L w0 arr0 T0 cs' us' bs w' ∧ cs'.length = E.m ∧ 0 ≤ k' ∧ k' ≤ QbK
end
end Go.Ab
