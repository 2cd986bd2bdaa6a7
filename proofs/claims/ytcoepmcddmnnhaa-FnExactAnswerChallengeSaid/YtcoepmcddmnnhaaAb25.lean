import Derived.Test.YtcoepmcddmnnhaaAb23
namespace Go.Ab
def Qi1 : Nat → Nat → List Int
 | 0,_=>[]
 | f + 1,n=>if n = 0 then [] else Qi1 f (n / 10) ++ [48 + ((n % 10 : Nat) : Int)]
def Qi2 (k : Int) : List Int:=if k ≤ 0 then [109,48] else 109 :: Qi1 (k.toNat + 1) k.toNat
def QbK : Int:=1099511627776
inductive Act1 where
 | seti (off : Nat) | sety (off : Nat) | setb (off : Nat) | sets (off : Nat) | inc | sub (off : Nat) (t : Ty)
def Ty.mok : Ty → Bool
 | .int .i64 | .int .u8 | .bool | .str | .unit=>true
 | .pair a b=>a.mok && b.mok
 | .list t=>t.mok
 | _=>false
def QhG : Ty → Nat → List Act1
 | .int .i64,off=>[.seti off,.inc]
 | .int _,off=>[.sety off,.inc]
 | .bool,off=>[.setb off,.inc]
 | .str,off=>[.sets off,.inc]
 | .pair a b,off=>QhG a off ++ QhG b (off + a.cells)
 | .list t,off=>[.sub off (.list t)]
 | _,_=>[]
def Ty.beq (a b : Ty) : Bool:=match Ty.eq? a b with
 | some _=>true
 | none=>false
theorem wrap_i64 {k : Int} (h0 : 0 ≤ k) (h1 : k ≤ QbK) : IntKind.wrap .i64 k = k :=
 QeJ (Jm.2 (by rw [UZ,Xc]; unfold QbK at h1; omega))
end Go.Ab
