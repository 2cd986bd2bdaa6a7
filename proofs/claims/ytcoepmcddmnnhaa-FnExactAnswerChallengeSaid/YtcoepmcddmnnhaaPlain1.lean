import Derived.Test.YtcoepmcddmnnhaaAb23
namespace Go.Ab
def bytesL (s : List Int) : Prop:=∀ b ∈ s,0 ≤ b ∧ b ≤ 255
theorem bytesL.tail {x : Int} {s : List Int} (h : bytesL (x :: s)) : bytesL s:=fun b hb=>h b (by simp [hb])
def Jh {α : Type} (xs : List α) (k : Nat) : Option α:=if k = 0 then none else xs[k - 1]?
end Go.Ab
