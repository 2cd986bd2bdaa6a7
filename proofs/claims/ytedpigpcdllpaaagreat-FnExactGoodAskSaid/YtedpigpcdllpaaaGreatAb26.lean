import Derived.Test.YtedpigpcdllpaaaGreatAb25
namespace Go.Ab
inductive MV where
 | any | arr | len | c (n : Int) | ix | ix1 | lt
 | kk (j : Nat) | txt (j : Nat) | r3 (j : Nat) | b3 (j : Nat) | byt (j : Nat)
 | elp (off : Nat) | sub (off : Nat) (t : Ty) (m : Nat)
structure TS where
 tm : Nat → MV
 ver : Nat
 mv : Nat
def QHb : Option Nat → Nat → Bool
 | some t,g=>Nat.beq g t
 | none,_=>false
structure TEnv where
 P : Program
 tl : TypeId
 m : Nat
 gt : Option Nat
 hs : List (Nat × Ty)
def TS.ev (s : TS) : Operand → MV
 | .tmp t=>s.tm t
 | .const (.int .i64 n)=>.c n
 | _=>.any
def TS.put (s : TS) (dst : Option Nat) (v : MV) : TS :=
 match dst with
 | some t=>{ s with tm:=fun x=>bif Nat.beq x t then v else s.tm x }
 | none=>s
theorem TS.put_mv (s : TS) (dst : Option Nat) (v : MV) : (s.put dst v).mv = s.mv:=by cases dst <;> rfl
def QFP (g : Nat) (t : Ty) : List (Nat × Ty) → Bool
 | []=>false
 | (g',t') :: l=>(Nat.beq g g' && Ty.beq t t') || QFP g t l
def QG1 (s : TS) (dst : Option Nat) (op : BinOp) (x y : MV) : Option (TS × List Act1) :=
 match op,x,y with
 | .add,.kk j,.c n=>bif Nat.beq j s.ver && decide (n = 1) then some ({ s with ver:=s.ver + 1 }.put dst (.kk (s.ver + 1)),[.inc]) else none
 | .add,.ix,.c n=>bif decide (n = 1) then some (s.put dst .ix1,[]) else none
 | .lss,.ix,.len=>some (s.put dst .lt,[])
 | .rem,.kk j,.c n=>bif Nat.beq j s.ver && decide (n = 3) then some (s.put dst (.r3 j),[]) else none
 | .eql,.r3 j,.c n=>bif Nat.beq j s.ver && decide (n = 0) then some (s.put dst (.b3 j),[]) else none
 | _,_,_=>none
def QGj (s : TS) (off : Nat) (v : MV) : Option Act1 :=
 match v with
 | .kk j=>bif Nat.beq j s.ver then some (.seti off) else none
 | .txt j=>bif Nat.beq j s.ver then some (.sets off) else none
 | .b3 j=>bif Nat.beq j s.ver then some (.setb off) else none
 | .byt j=>bif Nat.beq j s.ver then some (.sety off) else none
 | _=>none
def QGK (E : TEnv) (s : TS) (dst : Option Nat) (g : Nat) (args : List MV) : Option (TS × List Act1) :=
 match args with
 | [.kk j]=>bif QHb E.gt g && Nat.beq j s.ver then some (s.put dst (.txt j),[]) else none
 | [.sub off t m,.kk j]=>bif Nat.beq j s.ver && Nat.beq m s.mv && QFP g t E.hs && Nat.ble (off + t.cells) E.m && t.dok then some ({ s with ver:=s.ver + 1 }.put dst (.kk (s.ver + 1)),[.sub off t]) else none
 | _=>none
def QHc (E : TEnv) (nn : Nat) (o : Oper) (s : TS) : Option (TS × List Act1) :=
 bif Qhn nn o then
 match o.guard with
 | some _=>none
 | none=>match o.op with
  | .move x | .assign x=>some (s.put o.dst (s.ev x),[])
  | .binOp op t x y _=>match E.P.underlying t with
   | some (.int .i64)=>QG1 s o.dst op (s.ev x) (s.ev y)
   | _=>none
  | .convert a b x=>match E.P.underlying a,E.P.underlying b,s.ev x with
   | some (.int _),some (.int .u8),.kk j=>bif Nat.beq j s.ver then some (s.put o.dst (.byt j),[]) else none
   | _,_,_=>none
  | .call { callee:=.builtin .len,args,argTypes }=>match args.toList,argTypes.toList with
   | [x],[t]=>match s.ev x,E.P.underlying t with
    | .arr,some (.slice _)=>some (s.put o.dst .len,[])
    | _,_=>none
   | _,_=>none
  | .call { callee:=.value (.func g),args,.. }=>QGK E s o.dst g (args.toList.map s.ev)
  | .indexAddr t x i=>match s.ev x,s.ev i,GZ E.P t with
   | .arr,.ix,some e=>bif Nat.beq t E.tl && Nat.beq (E.P.cellsOf e) E.m && (E.P.info? e).isSome then some (s.put o.dst (.elp 0),[]) else none
   | _,_,_=>none
  | .fieldAddr t x f=>match s.ev x,Qm0 E.P t f with
   | .elp off,some (fo,ft)=>bif Nat.beq (E.P.cellsOf ft) 0 then none else some (s.put o.dst (.elp (off + fo)),[])
   | _,_=>none
  | .load t x=>match s.ev x,GY E.P J6 t with
   | .elp off,some ty=>bif Nat.ble (off + ty.cells) E.m then some (s.put o.dst (.sub off ty s.mv),[]) else none
   | _,_=>none
  | .store t x y=>match s.ev x with
   | .elp off=>match QGj s off (s.ev y) with
    | some a=>bif Nat.blt off E.m && Nat.beq (E.P.cellsOf t) 1 && (E.P.info? t).isSome then some ({ s with mv:=s.mv + 1 }.put o.dst .any,[a]) else none
    | none=>none
   | _=>none
  | _=>none
 else none
def QGw (E : TEnv) (nn : Nat) : List Oper → TS → Option (TS × List Act1)
 | [],s=>some (s,[])
 | o :: r,s=>match QHc E nn o s with
  | some (s1,a1)=>match QGw E nn r s1 with
   | some (s2,a2)=>some (s2,a1 ++ a2)
   | none=>none
  | none=>none
def QDB (E : TEnv) (nn : Nat) : Code → TS → Option (TS × List Act1)
 | .region _ ops false,s=>QGw E nn ops.toList s
 | .seq a b,s=>match QDB E nn a s with
  | some (s1,a1)=>match QDB E nn b s1 with
   | some (s2,a2)=>some (s2,a1 ++ a2)
   | none=>none
  | none=>none
 | _,_=>none
structure Pl where
 hdr : Value
 n : Int
 i : Int
 B : Nat
 O : Nat
def QwE (L : Pl) (s : TS) (k : Int) (us : List Value) : MV → Value → Prop
 | .any,_=>True
 | .arr,v=>v = L.hdr
 | .len,v=>v = .int .i64 L.n
 | .c m,v=>v = .int .i64 m
 | .ix,v=>v = .int .i64 L.i
 | .ix1,v=>v = .int .i64 (IntKind.wrap .i64 (L.i + 1))
 | .lt,v=>v = .bool (decide (L.i < L.n))
 | .kk j,v=>j = s.ver → v = .int .i64 k
 | .txt j,v=>j = s.ver → ∃ b : ByteArray,v = .string b ∧ ZU b = QG0 k ∧ b.size ≤ 140737488355328
 | .r3 j,v=>j = s.ver → v = .int .i64 (Int.tmod k 3)
 | .b3 j,v=>j = s.ver → v = .bool (decide (Int.tmod k 3 = 0))
 | .byt j,v=>j = s.ver → v = .int .u8 (IntKind.wrap .u8 k)
 | .elp off,v=>v = .pointer (some ⟨L.B,L.O + off,none⟩)
 | .sub off t m,v=>m = s.mv → match t.scalar with
  | true=>us[off]? = some v
  | false=>v = .agg ((us.drop off).take t.cells).toArray
structure Sim (L : Pl) (nn : Nat) (s : TS) (k : Int) (us : List Value) (a : Act) : Prop where
 tm : ∀ t,QwE L s k us (s.tm t) (a.tmps.getD t undef)
 size : a.tmps.size = nn
 defers : a.defers = []
structure Mem (L : Pl) (w0 : World) (arr0 : Array Value) (T0 : TypeId) (cs : List V) (us : List Value) (bs : List Nat) (w : World) : Prop where
 at_ : ∃ arr,w.heap[L.B]? = some (.cells arr T0 (0,0)) ∧ arr.size = arr0.size ∧ (∀ j,(j < L.O ∨ L.O + cs.length ≤ j) → arr[j]? = arr0[j]?) ∧ us = (arr.toList.drop L.O).take cs.length
 deep : Jy.DeepVL w cs us bs
 fit : L.O + cs.length ≤ arr0.size
 nb : L.B ∉ bs
 nodup : bs.Nodup
 os : w.os = w0.os
 tape : w.tape = w0.tape
 output : w.output = w0.output
 size : w0.heap.size ≤ w.heap.size
 lt : L.B < w0.heap.size ∧ ∀ c ∈ bs,c < w0.heap.size
 block : ∀ c,c < w0.heap.size → c ≠ L.B → c ∉ bs → w.heap[c]? = w0.heap[c]?
 drawn : w0.drawn ≤ w.drawn
section
variable {P : Program} {L : Pl} {nn : Nat} {s : TS} {k : Int} {us : List Value} {a : Act} {w0 w : World} {arr0 : Array Value} {T0 : TypeId} {cs : List V} {bs : List Nat}
theorem Sim.ev (h : Sim L nn s k us a) (x : Operand) : QwE L s k us (s.ev x) (a.eval x):=by
 unfold TS.ev
 split
 ·exact h.tm _
 ·rfl
 ·trivial
def MV.vle (ver mv : Nat) : MV → Prop
 | .kk j | .txt j | .r3 j | .b3 j | .byt j=>j ≤ ver
 | .sub _ _ m=>m ≤ mv
 | _=>True
theorem QFQ {s' : TS} {k' : Int} {us' : List Value} {v : Value} (hver : s.ver ≤ s'.ver) (hk : s'.ver = s.ver → k' = k) (hmv : s.mv ≤ s'.mv) (hus : s'.mv = s.mv → us' = us) {m : MV} (hj : m.vle s.ver s.mv) (h : QwE L s k us m v) : QwE L s' k' us' m v ∧ m.vle s'.ver s'.mv:=by
 have key : ∀ j,j ≤ s.ver → j = s'.ver → j = s.ver ∧ k' = k:=fun j h1 h2=>⟨by omega,hk (by omega)⟩
 cases m with
 | kk j=>exact ⟨fun e=>(by obtain ⟨e1,e2⟩:=key j hj e; rw [e2]; exact h e1),Nat.le_trans hj hver⟩
 | txt j=>exact ⟨fun e=>(by obtain ⟨e1,e2⟩:=key j hj e; rw [e2]; exact h e1),Nat.le_trans hj hver⟩
 | r3 j=>exact ⟨fun e=>(by obtain ⟨e1,e2⟩:=key j hj e; rw [e2]; exact h e1),Nat.le_trans hj hver⟩
 | b3 j=>exact ⟨fun e=>(by obtain ⟨e1,e2⟩:=key j hj e; rw [e2]; exact h e1),Nat.le_trans hj hver⟩
 | byt j=>exact ⟨fun e=>(by obtain ⟨e1,e2⟩:=key j hj e; rw [e2]; exact h e1),Nat.le_trans hj hver⟩
 | sub off t m =>
  have hj : m ≤ s.mv:=hj
  refine ⟨fun e=>?_,Nat.le_trans hj hmv⟩
  have e1 : m = s.mv:=by omega
  rw [hus (by omega)]
  exact h e1
 | _=>exact ⟨h,trivial⟩
structure SimV (L : Pl) (nn : Nat) (s : TS) (k : Int) (us : List Value) (a : Act) : Prop extends Sim L nn s k us a where
 vle : ∀ t,(s.tm t).vle s.ver s.mv
theorem SimV.put (h : SimV L nn s k us a) {s1 : TS} {k' : Int} {us' : List Value} (htm : s1.tm = s.tm) (hver : s.ver ≤ s1.ver) (hk : s1.ver = s.ver → k' = k) (hmv : s.mv ≤ s1.mv) (hus : s1.mv = s.mv → us' = us) {dst : Option Nat} (hd : ∀ t,dst = some t → t < nn) {m : MV} {u : Value} (hm : QwE L s1 k' us' m u) (hv : m.vle s1.ver s1.mv) :
  SimV L nn (s1.put dst m) k' us' (a.put dst u):=by
 have old : ∀ t,QwE L s1 k' us' (s1.tm t) (a.tmps.getD t undef) ∧ (s1.tm t).vle s1.ver s1.mv:=fun t=>by
  rw [htm]; exact QFQ hver hk hmv hus (h.vle t) (h.tm t)
 cases dst with
 | none=>exact ⟨⟨fun t=>(old t).1,h.size,h.defers⟩,fun t=>(old t).2⟩
 | some d =>
  have hsz : d < a.tmps.size:=by rw [h.size]; exact hd d rfl
  refine ⟨⟨fun t=>?_,by simp [Act.put,h.size],h.defers⟩,fun t=>?_⟩
  ·show QwE L s1 k' us' (bif Nat.beq t d then m else s1.tm t) _
   simp only [Act.put]
   rw [QCj _ _ _ _ hsz]
   by_cases e : t = d
   ·subst e; rw [Nat.beq_refl,if_pos rfl]; exact hm
   ·rw [Hu e,if_neg e]; exact (old t).1
  ·show (bif Nat.beq t d then m else s1.tm t).vle s1.ver s1.mv
   by_cases e : t = d
   ·subst e; rw [Nat.beq_refl]; exact hv
   ·rw [Hu e]; exact (old t).2
theorem QFR {o : Oper} {u : Value} {K : Act → World → Prop} {Q : Exit → Act → World → Prop} (hrun : (execOp a.eval o).run P w = .ok (.value u) w) (h : K (a.put o.dst u) w) : o.wp P a w K Q:=by
 unfold Oper.wp
 rw [hrun,Oper.upon_value]
 exact h
theorem Qy5 : ∀ {cs : List V} {us : List Value} {bs : List Nat} {off : Nat} {c v : V} {u : Value},Jy.DeepVL w cs us bs → cs[off]? = some c → c.scl = true → Jy w v u [] → Jy.DeepVL w (cs.set off v) (us.set off u) bs
 | [],_,_,_,_,_,_,_,h,_,_=>by simp at h
 | c :: cs,_,_,0,c',v,u,⟨u0,us',b1,b2,rfl,rfl,h1,h2⟩,h,hc,hv=>by
  simp only [List.getElem?_cons_zero,Option.some.injEq] at h
  subst h
  have hb : b1 = []:=by
   cases c with
   | d t x =>
    cases t with
    | int k=>exact h1.2
    | bool=>exact h1.2
    | str=>exact h1.2
    | _=>simp [V.scl] at hc
   | _=>simp [V.scl] at hc
  subst hb
  exact ⟨u,us',[],b2,rfl,rfl,hv,h2⟩
 | c :: cs,_,_,off + 1,c',v,u,⟨u0,us',b1,b2,rfl,rfl,h1,h2⟩,h,hc,hv =>
  ⟨u0,us'.set off u,b1,b2,rfl,rfl,h1,Qy5 h2 (by simpa using h) hc hv⟩
theorem Qs4 {w' : World} : ∀ {cs : List V} {us : List Value} {bs : List Nat},Jy.DeepVL w cs us bs → (∀ c ∈ bs,w'.heap[c]? = w.heap[c]?) → Jy.DeepVL w' cs us bs
 | [],_,_,h,_=>h
 | v :: cs,_,_,⟨u,us',b1,b2,e1,e2,h1,h2⟩,hb=>⟨u,us',b1,b2,e1,e2,QCq v u b1 h1 (fun c hc=>hb c (by rw [e2]; exact List.mem_append_left _ hc)),Qs4 h2 (fun c hc=>hb c (by rw [e2]; exact List.mem_append_right _ hc))⟩
end
end Go.Ab
