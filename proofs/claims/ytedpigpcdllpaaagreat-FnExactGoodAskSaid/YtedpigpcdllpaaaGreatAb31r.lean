import Derived.Test.YtedpigpcdllpaaaGreatAb26
import Derived.Maps.RangeRun
namespace Go.Ab
section
variable {P : Program} {L : Pl} {nn : Nat} {s s' : TS} {k k' : Int} {us : List Value} {a : Act} {w0 w : World} {arr0 : Array Value} {T0 : TypeId} {cs cs' : List V} {bs : List Nat} {E : TEnv}
def After (E : TEnv) (L : Pl) (nn : Nat) (w0 : World) (arr0 : Array Value) (T0 : TypeId) (bs : List Nat) (s : TS) (us : List Value) (s' : TS) (cs' : List V) (k' : Int) (a' : Act) (w' : World) : Prop :=
 ∃ us',(s.mv ≤ s'.mv ∧ (s'.mv = s.mv → us' = us)) ∧ SimV L nn s' k' us' a' ∧ Mem L w0 arr0 T0 cs' us' bs w' ∧ cs'.length = E.m ∧ 0 ≤ k' ∧ k' ≤ Qx2
end
end Go.Ab
namespace Go.Ab
section
variable {P : Program} {L : Pl} {nn : Nat} {s s' : TS} {k k' : Int} {us : List Value} {a : Act} {w0 w : World} {arr0 : Array Value} {T0 : TypeId} {cs cs' : List V} {bs : List Nat} {E : TEnv}
theorem Mem.us_len (h : Mem L w0 arr0 T0 cs us bs w) : us.length = cs.length:=(Qyt h.deep).symm
theorem Mem.cell (h : Mem L w0 arr0 T0 cs us bs w) {j : Nat} {u : Value} (hu : us[j]? = some u) : w.cell? ⟨L.B,L.O + j,none⟩ = some u:=by
 obtain ⟨arr,h1,h2,h3,h4⟩:=h.at_
 have hj : us[j]? = some u:=hu
 rw [h4,List.getElem?_take] at hj
 split at hj
 case isFalse=>cases hj
 rw [List.getElem?_drop] at hj
 simp [World.cell?,h1]
 simpa using hj
theorem After.value (hs : SimV L nn s k us a) (hm : Mem L w0 arr0 T0 cs us bs w) (hc : cs.length = E.m) (h0 : 0 ≤ k) (h1 : k ≤ Qx2) {o : Oper} (hd : ∀ t,o.dst = some t → t < nn) {Q : Exit → Act → World → Prop} {m : MV} {u : Value} (hrun : (execOp a.eval o).run P w = .ok (.value u) w) (hmv : QwE L s k us m u) (hvl : m.vle s.ver s.mv) (e1 : s' = s.put o.dst m) (hr : some (cs,k) = some (cs',k')) :
  o.wp P a w (After E L nn w0 arr0 T0 bs s us s' cs' k') Q:=by
 subst e1
 simp only [Option.some.injEq,Prod.mk.injEq] at hr
 obtain ⟨rfl,rfl⟩:=hr
 exact QFR hrun ⟨us,⟨by rw [TS.put_mv]; exact Nat.le_refl _,fun _=>rfl⟩,hs.put rfl (Nat.le_refl _) (fun _=>rfl) (Nat.le_refl _) (fun _=>rfl) hd hmv hvl,hm,hc,h0,h1⟩
theorem Mem.store (hm : Mem L w0 arr0 T0 cs us bs w) {off : Nat} {x c : V} {v : Value} (hc : cs[off]? = some c) (hsc : c.scl = true) (hx : ∀ w,Jy w x v []) {arr : Array Value} (harr : w.heap[L.B]? = some (.cells arr T0 (0,0))) (hO : L.O + off < arr.size) :
  Mem L w0 arr0 T0 (cs.set off x) (us.set off v) bs (w.setRow L.B (arr.toList.take (L.O + off) ++ [v] ++ arr.toList.drop (L.O + off + 1)).toArray):=by
 have hul:=hm.us_len
 obtain ⟨⟨arr',m1,m2,m3,m4⟩,m5,m6,m7,m8,m9,m10,m11,m12,⟨m13,m13'⟩,m14,m15⟩:=hm
 rw [harr] at m1
 cases m1
 have hoff : off < cs.length:=(List.getElem?_eq_some_iff.1 hc).1
 have hblk:=WF (w:=w) (cs:=(arr.toList.take (L.O + off) ++ [v] ++ arr.toList.drop (L.O + off + 1)).toArray) harr
 have hset : arr.toList.take (L.O + off) ++ [v] ++ arr.toList.drop (L.O + off + 1) = arr.toList.set (L.O + off) v:=by
  rw [List.set_eq_take_append_cons_drop,if_pos (by simpa using hO)]; simp
 rw [hset] at hblk ⊢
 refine ⟨⟨(arr.toList.set (L.O + off) v).toArray,by rw [hblk,if_pos rfl],by simpa using m2,fun j hj=>?_,?_⟩,?_,by simpa using m6,m7,m8,by rw [← m9]; rfl,by rw [← m10]; rfl,by rw [← m11]; rfl,by rw [size_setRow]; exact m12,⟨m13,m13'⟩,fun c h1 h2 h3=>?_,m15⟩
 ·rw [List.length_set] at hj
  have:=m3 j hj
  rw [← this]
  simp only [List.getElem?_toArray]
  rw [List.getElem?_set_ne (by omega)]
  simp
 ·rw [m4]
  apply List.ext_getElem?
  intro j
  simp only [List.getElem?_set,List.getElem?_take,List.getElem?_drop,List.length_set,List.length_take,List.length_drop,Array.length_toList]
  have hq : L.O + cs.length ≤ arr.size:=by rw [m2]; exact m6
  by_cases e : off = j
  ·subst e
   rw [if_pos rfl,if_pos (by omega),if_pos hoff,if_pos rfl,if_pos (by omega)]
  ·have e2 : ¬ (L.O + off = L.O + j):=by omega
   simp only [if_neg e,if_neg e2]
 ·refine Qy5 (Qs4 m5 fun c hc=>?_) hc hsc (hx _)
  rw [hblk,if_neg (fun e=>m7 (by rw [← e]; exact hc))]
 ·rw [hblk,if_neg h2]
  exact m14 c h1 h2 h3
end
end Go.Ab
namespace Go.Ab
def QEN (o : Oper) (d x : Nat) : Bool :=
 match o.guard,o.dst,o.op with
 | none,some d',.move (.tmp x')=>Nat.beq d d' && Nat.beq x x'
 | none,some d',.assign (.tmp x')=>Nat.beq d d' && Nat.beq x x'
 | _,_,_=>false
def QG2 (o : Oper) (d : Nat) : Bool :=
 match o.guard,o.dst,o.op with
 | none,some d',.assign (.const (.int .i64 n))=>Nat.beq d d' && decide (n = 0)
 | _,_,_=>false
def QG3 (P : Program) (tl : TypeId) (o : Oper) (d x : Nat) : Bool :=
 match o.guard,o.dst,o.op with
 | none,some d',.call { callee:=.builtin .len,args,argTypes }=>match args.toList,argTypes.toList with
  | [.tmp x'],[t]=>Nat.beq d d' && Nat.beq x x' && Nat.beq t tl && (match P.underlying t with
   | some (.slice _)=>true
   | _=>false)
  | _,_=>false
 | _,_,_=>false
def QG4 (P : Program) (o : Oper) (d x y : Nat) : Bool :=
 match o.guard,o.dst,o.op with
 | none,some d',.binOp .lss t (.tmp x') (.tmp y') _=>Nat.beq d d' && Nat.beq x x' && Nat.beq y y' && (match P.underlying t with
  | some (.int .i64)=>true
  | _=>false)
 | _,_,_=>false
def QG5 (P : Program) (o : Oper) (d x : Nat) : Bool :=
 match o.guard,o.dst,o.op with
 | none,some d',.binOp .add t (.tmp x') (.const (.int .i64 n)) _=>Nat.beq d d' && Nat.beq x x' && decide (n = 1) && (match P.underlying t with
  | some (.int .i64)=>true
  | _=>false)
 | _,_,_=>false
section
variable {P : Program} {ops : Array Oper} {Q : Exit → Act → World → Prop} {a : Act} {w : World} {rest : List Oper} {o : Oper} {d x y : Nat}
end
def Act1.beq : Act1 → Act1 → Bool
 | .seti o,.seti o' | .sety o,.sety o' | .setb o,.setb o' | .sets o,.sets o'=>Nat.beq o o'
 | .inc,.inc=>true
 | .sub o t,.sub o' t'=>Nat.beq o o' && Ty.beq t t'
 | _,_=>false
def QGx : List Act1 → List Act1 → Bool
 | [],[]=>true
 | a :: l,b :: l'=>a.beq b && QGx l l'
 | _,_=>false
def TS.s0 : TS:=⟨fun t=>match t with
 | 0=>.arr
 | 1=>.kk 0
 | 5=>.ix
 | _=>.any,0,0⟩
def TS.fine (s : TS) : Bool:=(match s.tm 0 with
 | .arr=>true
 | _=>false) && (match s.tm 1 with
 | .kk j=>Nat.beq j s.ver
 | _=>false) && (match s.tm 5 with
 | .ix=>true
 | _=>false)
def hotL (P : Program) (gt : Option Nat) (hs : List (Nat × Ty)) (tl : TypeId) (t : Ty) (fn : Func) : Code → Bool
 | .seq (.region _ r0 false) (.seq (.seq (.region _ r1 false) (.block b0 (.loop (.seq (.seq (.region _ r2 false) (.cond (.tmp 9) .skip (.exit b0'))) (.seq (.block _ body) (.region _ r3 false)))))) (.seq (.region _ r4 false) .ret)) =>
  Nat.beq b0' b0 && Nat.ble 12 fn.ntmps && t.mok && (match fn.results.toList with
   | [.tmp 4]=>true
   | _=>false) && (match r0.toList with
   | [o]=>QG2 o 4
   | _=>false) && (match r1.toList with
   | [o]=>QG2 o 5
   | _=>false) && (match r2.toList with
   | [o1,o2,o3,o4]=>QEN o1 6 5 && QEN o2 7 0 && QG3 P tl o3 8 7 && QG4 P o4 9 6 8
   | _=>false) && (match r3.toList with
   | [o1,o2,o3]=>QEN o1 10 5 && QG5 P o2 11 10 && QEN o3 5 11
   | _=>false) && (match r4.toList with
   | [o1,o2]=>(match o1.dst with
    | some d=>Nat.blt d fn.ntmps && QEN o1 d 1 && QEN o2 4 d
    | none=>false)
   | _=>false) && (match QDB ⟨P,tl,t.cells,gt,hs⟩ fn.ntmps body TS.s0 with
   | some (s',as)=>s'.fine && QGx as (QFO t 0)
   | none=>false)
 | _=>false
section
variable {P : Program}
theorem BelowX.refl (bs : List Nat) (w : World) : BelowX bs w w:=⟨rfl,rfl,rfl,Nat.le_refl _,fun _ _ _=>rfl,Nat.le_refl _⟩
theorem BelowX.trans {bs : List Nat} {w w' w'' : World} (h : BelowX bs w w') (h' : BelowX bs w' w'') : BelowX bs w w'' :=
 ⟨h'.os.trans h.os,h'.tape.trans h.tape,h'.output.trans h.output,Nat.le_trans h.size h'.size,fun c h1 h2=>(h'.block c (Nat.lt_of_lt_of_le h1 h.size) h2).trans (h.block c h1 h2),Nat.le_trans h.drawn h'.drawn⟩
end
end Go.Ab
namespace Go.Ab
def TS.s1 : TS:=⟨fun t=>match t with
 | 1=>.kk 0
 | 2=>.elp 0
 | _=>.any,0,0⟩
def isBox (o : Oper) : Bool:=match o.guard,o.dst,o.op with
 | none,some d,.box _ (.tmp x)=>Nat.beq d 2 && Nat.beq x 0
 | _,_,_=>false
end Go.Ab
namespace Go.Ab
end Go.Ab
namespace Go.Ab
section
variable {P : Program} {ops : Array Oper} {Q : Exit → Act → World → Prop} {a : Act} {w : World} {rest : List Oper} {o : Oper} {d x y : Nat}
end
end Go.Ab
