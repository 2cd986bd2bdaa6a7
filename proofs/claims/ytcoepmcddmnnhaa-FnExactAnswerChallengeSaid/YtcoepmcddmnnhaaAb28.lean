import Derived.Test.YtcoepmcddmnnhaaAb27
namespace Go.Ab
section
variable {P : Program} {L : Pl} {nn : Nat} {s s' : TS} {k k' : Int} {us : List Value} {a : Act} {w0 w : World} {arr0 : Array Value} {T0 : TypeId} {cs cs' : List V} {bs : List Nat} {E : TEnv}
theorem Mem.us_len (h : Mem L w0 arr0 T0 cs us bs w) : us.length = cs.length:=(Qb9 h.deep).symm
theorem Mem.cell (h : Mem L w0 arr0 T0 cs us bs w) {j : Nat} {u : Value} (hu : us[j]? = some u) : w.cell? ⟨L.B,L.O + j,none⟩ = some u:=by
 obtain ⟨arr,h1,h2,h3,h4⟩:=h.at_
 have hj : us[j]? = some u:=hu
 rw [h4,List.getElem?_take] at hj
 split at hj
 case isFalse=>cases hj
 rw [List.getElem?_drop] at hj
 simp [World.cell?,h1]
 simpa using hj
theorem After.value (hs : SimV L nn s k us a) (hm : Mem L w0 arr0 T0 cs us bs w) (hc : cs.length = E.m) (h0 : 0 ≤ k) (h1 : k ≤ QbK) {o : Oper} (hd : ∀ t,o.dst = some t → t < nn) {Q : Exit → Act → World → Prop} {m : MV} {u : Value} (hrun : (execOp a.eval o).run P w = .ok (.value u) w) (hmv : Qa6 L s k us m u) (hvl : m.vle s.ver s.mv) (e1 : s' = s.put o.dst m) (hr : some (cs,k) = some (cs',k')) :
  o.wp P a w (After E L nn w0 arr0 T0 bs s us s' cs' k') Q:=by
 subst e1
 simp only [Option.some.injEq,Prod.mk.injEq] at hr
 obtain ⟨rfl,rfl⟩:=hr
 exact QhJ hrun ⟨us,⟨by rw [TS.put_mv]; exact Nat.le_refl _,fun _=>rfl⟩,hs.put rfl (Nat.le_refl _) (fun _=>rfl) (Nat.le_refl _) (fun _=>rfl) hd hmv hvl,hm,hc,h0,h1⟩
theorem Mem.store (hm : Mem L w0 arr0 T0 cs us bs w) {off : Nat} {x c : V} {v : Value} (hc : cs[off]? = some c) (hsc : c.scl = true) (hx : ∀ w,Zd w x v []) {arr : Array Value} (harr : w.heap[L.B]? = some (.cells arr T0 (0,0))) (hO : L.O + off < arr.size) :
  Mem L w0 arr0 T0 (cs.set off x) (us.set off v) bs (w.setRow L.B (arr.toList.take (L.O + off) ++ [v] ++ arr.toList.drop (L.O + off + 1)).toArray):=by
 have hul:=hm.us_len
 obtain ⟨⟨arr',m1,m2,m3,m4⟩,m5,m6,m7,m8,m9,m10,m11,m12,⟨m13,m13'⟩,m14⟩:=hm
 rw [harr] at m1
 cases m1
 have hoff : off < cs.length:=(List.getElem?_eq_some_iff.1 hc).1
 have hblk:=Yi (w:=w) (cs:=(arr.toList.take (L.O + off) ++ [v] ++ arr.toList.drop (L.O + off + 1)).toArray) harr
 have hset : arr.toList.take (L.O + off) ++ [v] ++ arr.toList.drop (L.O + off + 1) = arr.toList.set (L.O + off) v:=by
  rw [List.set_eq_take_append_cons_drop,if_pos (by simpa using hO)]; simp
 rw [hset] at hblk ⊢
 refine ⟨⟨(arr.toList.set (L.O + off) v).toArray,by rw [hblk,if_pos rfl],by simpa using m2,fun j hj=>?_,?_⟩,?_,by simpa using m6,m7,m8,by rw [← m9]; rfl,by rw [← m10]; rfl,by rw [← m11]; rfl,by rw [size_setRow]; exact m12,⟨m13,m13'⟩,fun c h1 h2 h3=>?_⟩
 ·rw [List.length_set] at hj
  have:=m3 j hj
  rw [← this]
  simp only [List.getElem?_toArray]
  rw [List.getElem?_set_ne (by omega)]
  simp
 ·rw [m4]
  apply List.ext_getElem?
  intro j
  simp only [List.getElem?_set,List.getElem?_take,List.getElem?_drop,List.length_set,List.length_take,List.length_drop,Array.length_toList]
  have hq : L.O + cs.length ≤ arr.size:=by rw [m2]; exact m6
  by_cases e : off = j
  ·subst e
   rw [if_pos rfl,if_pos (by omega),if_pos hoff,if_pos rfl,if_pos (by omega)]
  ·have e2 : ¬ (L.O + off = L.O + j):=by omega
   simp only [if_neg e,if_neg e2]
 ·refine QcG (EJ m5 fun c hc=>?_) hc hsc (hx _)
  rw [hblk,if_neg (fun e=>m7 (by rw [← e]; exact hc))]
 ·rw [hblk,if_neg h2]
  exact m14 c h1 h2 h3
end
end Go.Ab
