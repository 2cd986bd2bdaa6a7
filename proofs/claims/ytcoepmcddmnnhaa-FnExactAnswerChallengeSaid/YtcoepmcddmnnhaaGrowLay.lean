import Derived.Shelf.Spec.SlicesGrow
import Derived.Test.YtcoepmcddmnnhaaAb35
import Derived.Test.YtcoepmcddmnnhaaProg
import Derived.KernelRfl
namespace Go.Proofs
open Go.Shelf
shelf_lay_g Lays8.n4 Nm8 4 at Try 48 as Try.growL
end Go.Proofs
namespace Go.Ab
open Go.Proofs
theorem Qid : QhK Try.prog 48 (.int .u8):=by
 refine ⟨by kernel_rfl,rfl,fun n w h0 h1=>?_⟩
 obtain ⟨i,z,hi,hz,_,hzc⟩:=VC (M:=⟨fun _=>none,fun _ _=>none,fun _=>none,0,.no⟩) (P:=Try.prog) (e:=5) (ty:=.int .u8) (z:=(0 : Int)) (by kernel_rfl)
 obtain ⟨_,_,_,_,i',hi',hs⟩:=QT (show Jc Try.prog QU 5 = some (.int .u8) by kernel_rfl)
 rw [hi] at hi'
 cases hi'
 have hs : i.size = 1:=hs
 have hzc : z.cells.size = 1:=hzc
 have hby : i.bytes = 1:=by
  have : Try.prog.bytesOf 5 = 1:=by kernel_rfl
  simpa [Program.bytesOf,hi] using this
 have:=Any8.slices_Grow_grow Try.growL i z hi hz (by omega) none 0 0 n [] w (Nat.le_refl _) (by omega) (by rw [hby]; omega) (by omega) (by simp) (fun _=>rfl) (fun a ha=>(nomatch ha))
 refine this.mono fun e w'=>?_
 rintro ⟨rfl,rfl⟩
 refine ⟨_,_,_,rfl,rfl,?_,?_⟩
 ·have hge:=grownCap_ge w (0 + n) 0 5
  rw [Array.size_append,Array.size_append,size_zeroCells,size_zeroCells,hzc]
  show 0 + (0 + n - 0) * 1 + (grownCap w (0 + n) 0 5 - (0 + n)) * 1 = grownCap w (0 + n) 0 5
  omega
 ·exact grownCap_le_maxLen w (0 + n) 0 _ (by unfold maxLen; omega)
end Go.Ab
