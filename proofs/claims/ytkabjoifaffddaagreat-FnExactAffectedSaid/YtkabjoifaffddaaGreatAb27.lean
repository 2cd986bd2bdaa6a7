import Derived.Test.YtkabjoifaffddaaGreatAb25
namespace Go.Ab
def Wp (P:Program) (g:Nat) (t:Ty):Prop:=JG P g=true∧∀ (w:World) (u:Value) (bs:List Nat) (x:t.den) (k:Int),QgD w t x u bs→bs.Nodup→0≤k→k+HS t x≤ZT→Calls P g #[u,.int .i64 k] w fun e w'=>e=.returned (.int .i64 (Gl t x k).1)∧QgD w' t (Gl t x k).2 u bs∧BelowX bs w w'
def QjJ (P:Program) (g:Nat):Prop:=JG P g=true∧∀ (w:World) (k:Int),0≤k→k≤ZT→Calls P g #[.int .i64 k] w fun e w'=>∃ s:ByteArray,e=.returned (.string s)∧ZE s=QgN k∧s.size≤140737488355328∧BelowN w.heap.size w w'
inductive MV where
 | any | arr | len | c (n:Int) | ix | ix1 | lt
 | kk (j:Nat) | txt (j:Nat) | r3 (j:Nat) | b3 (j:Nat) | byt (j:Nat)
 | elp (off:Nat) | sub (off:Nat) (t:Ty) (m:Nat)
structure TS where
 tm:Nat→MV
 ver:Nat
 mv:Nat
def Qzl:Option Nat→Nat→Bool | some t,g=>Nat.beq g t | none,_=>false
structure TEnv where
 P:Program
 tl:TypeId
 m:Nat
 gt:Option Nat
 hs:List (Nat × Ty)
def TS.ev (s:TS):Operand→MV | .tmp t=>s.tm t | .const (.int .i64 n)=>.c n | _=>.any
def TS.put (s:TS) (dst:Option Nat) (v:MV):TS :=
 match dst with
 | some t=>{ s with tm:=fun x=>bif Nat.beq x t then v else s.tm x }
 | none=>s
theorem TS.put_mv (s:TS) (dst:Option Nat) (v:MV):(s.put dst v).mv=s.mv:=by cases dst<;>rfl
def QhV (g:Nat) (t:Ty):List (Nat × Ty)→Bool | []=>false | (g',t')::l=>(Nat.beq g g'&&Ty.beq t t')||QhV g t l
def QAo (s:TS) (dst:Option Nat) (op:BinOp) (x y:MV):Option (TS × List Act1) :=
 match op,x,y with
 | .add,.kk j,.c n=>bif Nat.beq j s.ver&&decide (n=1) then some ({ s with ver:=s.ver+1 }.put dst (.kk (s.ver+1)),[.inc]) else none
 | .add,.ix,.c n=>bif decide (n=1) then some (s.put dst .ix1,[]) else none
 | .lss,.ix,.len=>some (s.put dst .lt,[])
 | .rem,.kk j,.c n=>bif Nat.beq j s.ver&&decide (n=3) then some (s.put dst (.r3 j),[]) else none
 | .eql,.r3 j,.c n=>bif Nat.beq j s.ver&&decide (n=0) then some (s.put dst (.b3 j),[]) else none
 | _,_,_=>none
def QvM (s:TS) (off:Nat) (v:MV):Option Act1 :=
 match v with
 | .kk j=>bif Nat.beq j s.ver then some (.seti off) else none
 | .txt j=>bif Nat.beq j s.ver then some (.sets off) else none
 | .b3 j=>bif Nat.beq j s.ver then some (.setb off) else none
 | .byt j=>bif Nat.beq j s.ver then some (.sety off) else none
 | _=>none
def QxR (E:TEnv) (s:TS) (dst:Option Nat) (g:Nat) (args:List MV):Option (TS × List Act1) :=
 match args with
 | [.kk j]=>bif Qzl E.gt g&&Nat.beq j s.ver then some (s.put dst (.txt j),[]) else none
 | [.sub off t m,.kk j]=>bif Nat.beq j s.ver&&Nat.beq m s.mv&&QhV g t E.hs&&Nat.ble (off+t.cells) E.m&&t.dok then some ({ s with ver:=s.ver+1 }.put dst (.kk (s.ver+1)),[.sub off t]) else none
 | _=>none
def QBB (E:TEnv) (nn:Nat) (o:Oper) (s:TS):Option (TS × List Act1) :=
 bif QfD nn o then
 match o.guard with
 | some _=>none
 | none=>match o.op with
  | .move x | .assign x=>some (s.put o.dst (s.ev x),[])
  | .binOp op t x y _=>match E.P.underlying t with
   | some (.int .i64)=>QAo s o.dst op (s.ev x) (s.ev y)
   | _=>none
  | .convert a b x=>match E.P.underlying a,E.P.underlying b,s.ev x with
   | some (.int _),some (.int .u8),.kk j=>bif Nat.beq j s.ver then some (s.put o.dst (.byt j),[]) else none
   | _,_,_=>none
  | .call { callee:=.builtin .len,args,argTypes }=>match args.toList,argTypes.toList with
   | [x],[t]=>match s.ev x,E.P.underlying t with
    | .arr,some (.slice _)=>some (s.put o.dst .len,[])
    | _,_=>none
   | _,_=>none
  | .call { callee:=.value (.func g),args,.. }=>QxR E s o.dst g (args.toList.map s.ev)
  | .indexAddr t x i=>match s.ev x,s.ev i,XA E.P t with
   | .arr,.ix,some e=>bif Nat.beq t E.tl&&Nat.beq (E.P.cellsOf e) E.m&&(E.P.info? e).isSome then some (s.put o.dst (.elp 0),[]) else none
   | _,_,_=>none
  | .fieldAddr t x f=>match s.ev x,Qjl E.P t f with
   | .elp off,some (fo,ft)=>bif Nat.beq (E.P.cellsOf ft) 0 then none else some (s.put o.dst (.elp (off+fo)),[])
   | _,_=>none
  | .load t x=>match s.ev x,Xz E.P JS t with
   | .elp off,some ty=>bif Nat.ble (off+ty.cells) E.m then some (s.put o.dst (.sub off ty s.mv),[]) else none
   | _,_=>none
  | .store t x y=>match s.ev x with
   | .elp off=>match QvM s off (s.ev y) with
    | some a=>bif Nat.blt off E.m&&Nat.beq (E.P.cellsOf t) 1&&(E.P.info? t).isSome then some ({ s with mv:=s.mv+1 }.put o.dst .any,[a]) else none
    | none=>none
   | _=>none
  | _=>none
 else none
def QyD (E:TEnv) (nn:Nat):List Oper→TS→Option (TS × List Act1)
 | [],s=>some (s,[])
 | o::r,s=>match QBB E nn o s with
  | some (s1,a1)=>match QyD E nn r s1 with
   | some (s2,a2)=>some (s2,a1++a2)
   | none=>none
  | none=>none
def UT (E:TEnv) (nn:Nat):Code→TS→Option (TS × List Act1)
 | .region _ ops false,s=>QyD E nn ops.toList s
 | .seq a b,s=>match UT E nn a s with
  | some (s1,a1)=>match UT E nn b s1 with
   | some (s2,a2)=>some (s2,a1++a2)
   | none=>none
  | none=>none
 | _,_=>none
structure Pl where
 hdr:Value
 n:Int
 i:Int
 B:Nat
 O:Nat
def QgO (L:Pl) (s:TS) (k:Int) (us:List Value):MV→Value→Prop
 | .any,_=>True
 | .arr,v=>v=L.hdr
 | .len,v=>v=.int .i64 L.n
 | .c m,v=>v=.int .i64 m
 | .ix,v=>v=.int .i64 L.i
 | .ix1,v=>v=.int .i64 (IntKind.wrap .i64 (L.i+1))
 | .lt,v=>v=.bool (decide (L.i<L.n))
 | .kk j,v=>j=s.ver→v=.int .i64 k
 | .txt j,v=>j=s.ver→∃ b:ByteArray,v=.string b∧ZE b=QgN k∧b.size≤140737488355328
 | .r3 j,v=>j=s.ver→v=.int .i64 (Int.tmod k 3)
 | .b3 j,v=>j=s.ver→v=.bool (decide (Int.tmod k 3=0))
 | .byt j,v=>j=s.ver→v=.int .u8 (IntKind.wrap .u8 k)
 | .elp off,v=>v=.pointer (some ⟨L.B,L.O+off,none⟩)
 | .sub off t m,v=>m=s.mv→match t.scalar with
  | true=>us[off]? = some v
  | false=>v=.agg ((us.drop off).take t.cells).toArray
structure Sim (L:Pl) (nn:Nat) (s:TS) (k:Int) (us:List Value) (a:Act):Prop where
 tm:∀ t,QgO L s k us (s.tm t) (a.tmps.getD t undef)
 size:a.tmps.size=nn
 defers:a.defers=[]
structure Mem (L:Pl) (w0:World) (arr0:Array Value) (T0:TypeId) (cs:List V) (us:List Value) (bs:List Nat) (w:World):Prop where
 at_:∃ arr,w.heap[L.B]? = some (.cells arr T0 (0,0))∧arr.size=arr0.size∧(∀ j,(j<L.O∨L.O+cs.length≤j)→arr[j]? = arr0[j]?)∧us=(arr.toList.drop L.O).take cs.length
 deep:Z1.DeepVL w cs us bs
 fit:L.O+cs.length≤arr0.size
 nb:L.B∉bs
 nodup:bs.Nodup
 os:w.os=w0.os
 tape:w.tape=w0.tape
 output:w.output=w0.output
 size:w0.heap.size≤w.heap.size
 lt:L.B<w0.heap.size∧∀ c∈bs,c<w0.heap.size
 block:∀ c,c<w0.heap.size→c≠L.B→c∉bs→w.heap[c]? = w0.heap[c]?
 drawn:w0.drawn≤w.drawn
section
variable {P:Program} {L:Pl} {nn:Nat} {s:TS} {k:Int} {us:List Value} {a:Act} {w0 w:World} {arr0:Array Value} {T0:TypeId} {cs:List V} {bs:List Nat}
theorem Sim.ev (h:Sim L nn s k us a) (x:Operand):QgO L s k us (s.ev x) (a.eval x):=by
 unfold TS.ev
 split
 ·exact h.tm _
 ·rfl
 ·trivial
def MV.vle (ver mv:Nat):MV→Prop | .kk j | .txt j | .r3 j | .b3 j | .byt j=>j≤ver | .sub _ _ m=>m≤mv | _=>True
theorem QAp {s':TS} {k':Int} {us':List Value} {v:Value} (hver:s.ver≤s'.ver) (hk:s'.ver=s.ver→k'=k) (hmv:s.mv≤s'.mv) (hus:s'.mv=s.mv→us'=us) {m:MV} (hj:m.vle s.ver s.mv) (h:QgO L s k us m v):QgO L s' k' us' m v∧m.vle s'.ver s'.mv:=by
 have key:∀ j,j≤s.ver→j=s'.ver→j=s.ver∧k'=k:=fun j h1 h2=>⟨by omega,hk (by omega)⟩
 cases m with
 | kk j=>exact ⟨fun e=>(by obtain ⟨e1,e2⟩:=key j hj e;rw [e2];exact h e1),Nat.le_trans hj hver⟩
 | txt j=>exact ⟨fun e=>(by obtain ⟨e1,e2⟩:=key j hj e;rw [e2];exact h e1),Nat.le_trans hj hver⟩
 | r3 j=>exact ⟨fun e=>(by obtain ⟨e1,e2⟩:=key j hj e;rw [e2];exact h e1),Nat.le_trans hj hver⟩
 | b3 j=>exact ⟨fun e=>(by obtain ⟨e1,e2⟩:=key j hj e;rw [e2];exact h e1),Nat.le_trans hj hver⟩
 | byt j=>exact ⟨fun e=>(by obtain ⟨e1,e2⟩:=key j hj e;rw [e2];exact h e1),Nat.le_trans hj hver⟩
 | sub off t m =>
  have hj:m≤s.mv:=hj
  refine ⟨fun e=>?_,Nat.le_trans hj hmv⟩
  have e1:m=s.mv:=by omega
  rw [hus (by omega)]
  exact h e1
 | _=>exact ⟨h,trivial⟩
structure SimV (L:Pl) (nn:Nat) (s:TS) (k:Int) (us:List Value) (a:Act):Prop extends Sim L nn s k us a where
 vle:∀ t,(s.tm t).vle s.ver s.mv
theorem SimV.evle (h:SimV L nn s k us a) (x:Operand):(s.ev x).vle s.ver s.mv:=by
 unfold TS.ev
 split
 ·exact h.vle _
 ·trivial
 ·trivial
theorem SimV.put (h:SimV L nn s k us a) {s1:TS} {k':Int} {us':List Value} (htm:s1.tm=s.tm) (hver:s.ver≤s1.ver) (hk:s1.ver=s.ver→k'=k) (hmv:s.mv≤s1.mv) (hus:s1.mv=s.mv→us'=us) {dst:Option Nat} (hd:∀ t,dst=some t→t<nn) {m:MV} {u:Value} (hm:QgO L s1 k' us' m u) (hv:m.vle s1.ver s1.mv) :
  SimV L nn (s1.put dst m) k' us' (a.put dst u):=by
 have old:∀ t,QgO L s1 k' us' (s1.tm t) (a.tmps.getD t undef)∧(s1.tm t).vle s1.ver s1.mv:=fun t=>by
  rw [htm];exact QAp hver hk hmv hus (h.vle t) (h.tm t)
 cases dst with
 | none=>exact ⟨⟨fun t=>(old t).1,h.size,h.defers⟩,fun t=>(old t).2⟩
 | some d =>
  have hsz:d<a.tmps.size:=by rw [h.size];exact hd d rfl
  refine ⟨⟨fun t=>?_,by simp [Act.put,h.size],h.defers⟩,fun t=>?_⟩
  ·show QgO L s1 k' us' (bif Nat.beq t d then m else s1.tm t) _
   simp only [Act.put]
   rw [Qse _ _ _ _ hsz]
   by_cases e:t=d
   ·subst e;rw [Nat.beq_refl,if_pos rfl];exact hm
   ·rw [HQ e,if_neg e];exact (old t).1
  ·show (bif Nat.beq t d then m else s1.tm t).vle s1.ver s1.mv
   by_cases e:t=d
   ·subst e;rw [Nat.beq_refl];exact hv
   ·rw [HQ e];exact (old t).2
theorem QnY {o:Oper} {u:Value} {K:Act→World→Prop} {Q:Exit→Act→World→Prop} (hrun:(execOp a.eval o).run P w=.ok (.value u) w) (h:K (a.put o.dst u) w):o.wp P a w K Q:=by
 unfold Oper.wp
 rw [hrun,Oper.upon_value]
 exact h
theorem QsV:∀ {cs:List V} {us:List Value} {bs:List Nat} {off:Nat} {c v:V} {u:Value},Z1.DeepVL w cs us bs→cs[off]? = some c→c.scl=true→Z1 w v u []→Z1.DeepVL w (cs.set off v) (us.set off u) bs
 | [],_,_,_,_,_,_,_,h,_,_=>by simp at h
 | c::cs,_,_,0,c',v,u,⟨u0,us',b1,b2,rfl,rfl,h1,h2⟩,h,hc,hv=>by
  simp only [List.getElem?_cons_zero,Option.some.injEq] at h
  subst h
  have hb:b1=[]:=by
   cases c with
   | d t x =>
    cases t with
    | int k=>exact h1.2
    | bool=>exact h1.2
    | str=>exact h1.2
    | _=>simp [V.scl] at hc
   | _=>simp [V.scl] at hc
  subst hb
  exact ⟨u,us',[],b2,rfl,rfl,hv,h2⟩
 | c::cs,_,_,off+1,c',v,u,⟨u0,us',b1,b2,rfl,rfl,h1,h2⟩,h,hc,hv =>
  ⟨u0,us'.set off u,b1,b2,rfl,rfl,h1,QsV h2 (by simpa using h) hc hv⟩
theorem QaI {w':World}:∀ {cs:List V} {us:List Value} {bs:List Nat},Z1.DeepVL w cs us bs→(∀ c∈bs,w'.heap[c]? = w.heap[c]?)→Z1.DeepVL w' cs us bs
 | [],_,_,h,_=>h
 | v::cs,_,_,⟨u,us',b1,b2,e1,e2,h1,h2⟩,hb=>⟨u,us',b1,b2,e1,e2,Qwm v u b1 h1 (fun c hc=>hb c (by rw [e2];exact List.mem_append_left _ hc)),QaI h2 (fun c hc=>hb c (by rw [e2];exact List.mem_append_right _ hc))⟩
end
end Go.Ab
namespace Go.Ab
structure EnvOk (E:TEnv) (P:Program) (L:Pl):Prop where
 prog:E.P=P
 text:∀ g,Qzl E.gt g=true→QjJ P g
 hot:∀ g t,QhV g t E.hs=true→Wp P g t
 hdr:∃ O0 cap,L.hdr=.slice (some ⟨L.B,O0,none⟩) L.n.toNat cap∧L.O=O0+L.i.toNat*E.m
 i:0≤L.i∧L.i<L.n∧L.n≤9223372036854775807
section
variable {P:Program} {L:Pl} {nn:Nat} {s s':TS} {k k':Int} {us:List Value} {a:Act} {w0 w:World} {arr0:Array Value} {T0:TypeId} {cs cs':List V} {bs:List Nat} {E:TEnv}
def After (E:TEnv) (L:Pl) (nn:Nat) (w0:World) (arr0:Array Value) (T0:TypeId) (bs:List Nat) (s:TS) (us:List Value) (s':TS) (cs':List V) (k':Int) (a':Act) (w':World):Prop:=∃ us',(s.mv≤s'.mv∧(s'.mv=s.mv→us'=us))∧SimV L nn s' k' us' a'∧Mem L w0 arr0 T0 cs' us' bs w'∧cs'.length=E.m∧0≤k'∧k'≤ZT
theorem QjK {k:Int} (h0:0≤k) (h1:k≤ZT):inK .i64 k=true:=by
 rw [VZ,WS,Ui]
 unfold ZT at h1
 omega
def QA5:Me:=⟨fun _=>none,fun _ _=>none,fun _=>none,0,.no⟩
theorem Qk5 {o:Oper} {op:BinOp} {t t':TypeId} {x y:Operand} (hop:o.op=.binOp op t x y t') {p q:Int} (hx:a.eval x=.int .i64 p) (hy:a.eval y=.int .i64 q) (hp:inK .i64 p=true) (hq:inK .i64 q=true) {r:V}
  (h:Qeg P op t (.d (.int .i64) p) (.d (.int .i64) q) some=some r):∃ u,RelV QA5 r u∧(execOp a.eval o).run P w=.ok (.value u) w:=by
 obtain ⟨v,u,h1,h2,h3,_⟩:=Qmt (X:=x) (Y:=y) (w:=w) (M:=QA5) h (.mkInt hp) (.mkInt hq)
 cases h1
 refine ⟨u,h3,?_⟩
 simp only [execOp,hop,hx,hy]
 have:=h2 w
 rw [Sem.run_bind,this]
 rfl
theorem QwN (hE:EnvOk E P L) (hs:SimV L nn s k us a) (hm:Mem L w0 arr0 T0 cs us bs w) (hc:cs.length=E.m) (h0:0≤k) (h1:k≤ZT) {o:Oper} (hd:∀ t,o.dst=some t→t<nn) {op:BinOp} {t t':TypeId} {x y:Operand} (hop:o.op=.binOp op t x y t') {as:List Act1}
  (h:QAo s o.dst op (s.ev x) (s.ev y)=some (s',as)) (hr:Y2 as (cs,k)=some (cs',k')) (Q:Exit→Act→World→Prop) :
  o.wp P a w (After E L nn w0 arr0 T0 bs s us s' cs' k') Q:=by
 have hx:=hs.ev x
 have hy:=hs.ev y
 have hkk:=QjK h0 h1
 have hi:=hE.i
 have hin:inK .i64 L.i=true:=VZ.2 (by rw [WS,Ui];omega)
 have hnn:inK .i64 L.n=true:=VZ.2 (by rw [WS,Ui];omega)
 have fin:∀ {m:MV} {u:Value},(execOp a.eval o).run P w=.ok (.value u) w→QgO L s k us m u→m.vle s.ver s.mv→s'=s.put o.dst m→as=[]→o.wp P a w (After E L nn w0 arr0 T0 bs s us s' cs' k') Q:=by
  intro m u hrun hmv hvl e1 e2
  subst e1;subst e2
  simp only [Y2,Option.some.injEq,Prod.mk.injEq] at hr
  obtain ⟨rfl,rfl⟩:=hr
  exact QnY hrun ⟨us,⟨by rw [TS.put_mv];exact Nat.le_refl _,fun _=>rfl⟩,hs.put rfl (Nat.le_refl _) (fun _=>rfl) (Nat.le_refl _) (fun _=>rfl) hd hmv hvl,hm,hc,h0,h1⟩
 unfold QAo at h
 split at h
 ·rename_i j n ex ey
  obtain ⟨hb,h2⟩:=Qn h
  clear h
  simp only [Bool.and_eq_true,decide_eq_true_eq] at hb
  obtain ⟨hj,hn⟩:=hb
  subst hn
  have hj:=Nat.eq_of_beq_eq_true hj
  rw [ex] at hx;rw [ey] at hy
  have hx:=hx hj
  cases h2
  simp only [Y2,QaH] at hr
  split at hr
  case isFalse=>cases hr
  rename_i hlt
  simp only [Option.bind_some,Option.some.injEq,Prod.mk.injEq] at hr
  obtain ⟨rfl,rfl⟩:=hr
  obtain ⟨u,hu,hrun⟩:=Qk5 (P:=P) (w:=w) hop hx hy hkk (by decide) (r:=.d (.int .i64) (IntKind.wrap .i64 (k+1))) (by simp [Qeg])
  obtain ⟨rfl,_⟩:=hu.int_inv
  rw [wrap_i64 (by omega) hlt] at hrun
  exact QnY hrun ⟨us,⟨by rw [TS.put_mv];exact Nat.le_refl _,fun _=>rfl⟩,hs.put (s1:={ s with ver:=s.ver+1 }) rfl (Nat.le_succ _) (fun e=>absurd e (by simp)) (Nat.le_refl _) (fun _=>rfl) hd (fun _=>rfl) (Nat.le_refl _),hm,hc,by omega,hlt⟩
 ·rename_i n ex ey
  obtain ⟨hb,h2⟩:=Qn h
  clear h
  simp only [decide_eq_true_eq] at hb
  subst hb
  rw [ex] at hx;rw [ey] at hy
  cases h2
  obtain ⟨u,hu,hrun⟩:=Qk5 (P:=P) (w:=w) hop hx hy hin (by decide) (r:=.d (.int .i64) (IntKind.wrap .i64 (L.i+1))) (by simp [Qeg])
  obtain ⟨rfl,_⟩:=hu.int_inv
  exact fin (m:=.ix1) hrun rfl trivial rfl rfl
 ·rename_i ex ey
  rw [ex] at hx;rw [ey] at hy
  cases h
  obtain ⟨u,hu,hrun⟩:=Qk5 (P:=P) (w:=w) hop hx hy hin hnn (r:=.d .bool (decide (L.i<L.n))) (by simp [Qeg,QzC])
  have:=hu.bool_inv
  subst this
  exact fin (m:=.lt) hrun rfl trivial rfl rfl
 ·rename_i j n ex ey
  obtain ⟨hb,h2⟩:=Qn h
  clear h
  simp only [Bool.and_eq_true,decide_eq_true_eq] at hb
  obtain ⟨hj,hn⟩:=hb
  subst hn
  have hj:=Nat.eq_of_beq_eq_true hj
  rw [ex] at hx;rw [ey] at hy
  have hx:=hx hj
  cases h2
  obtain ⟨u,hu,hrun⟩:=Qk5 (P:=P) (w:=w) hop hx hy hkk (by decide) (r:=.d (.int .i64) (Int.tmod k 3)) (by simp [Qeg])
  obtain ⟨rfl,_⟩:=hu.int_inv
  exact fin (m:=.r3 j) hrun (fun _=>rfl) (by rw [hj];exact Nat.le_refl _) rfl rfl
 ·rename_i j n ex ey
  obtain ⟨hb,h2⟩:=Qn h
  clear h
  simp only [Bool.and_eq_true,decide_eq_true_eq] at hb
  obtain ⟨hj,hn⟩:=hb
  subst hn
  have hj:=Nat.eq_of_beq_eq_true hj
  rw [ex] at hx;rw [ey] at hy
  have hx:=hx hj
  cases h2
  obtain ⟨u,hu,hrun⟩:=Qk5 (P:=P) (w:=w) hop hx hy (Qwd hkk) (by decide) (r:=.d .bool (decide (Int.tmod k 3=0))) (by simp [Qeg,QzC])
  have:=hu.bool_inv
  subst this
  exact fin (m:=.b3 j) hrun (fun _=>rfl) (by rw [hj];exact Nat.le_refl _) rfl rfl
 ·cases h
theorem QvN (hE:EnvOk E P L) (hs:SimV L nn s k us a) (hm:Mem L w0 arr0 T0 cs us bs w) (hc:cs.length=E.m) (h0:0≤k) (h1:k≤ZT) {o:Oper} (hd:∀ t,o.dst=some t→t<nn) {g:Nat} {args:Array Operand} {ats:Array TypeId} (hop:o.op=.call ⟨.value (.func g),args,ats⟩) {as:List Act1}
  (h:QxR E s o.dst g (args.toList.map s.ev)=some (s',as)) (hr:Y2 as (cs,k)=some (cs',k')) (Q:Exit→Act→World→Prop) :
  o.wp P a w (After E L nn w0 arr0 T0 bs s us s' cs' k') Q:=by
 have hexec:∀ {vals:List Value},args.toList.map a.eval=vals→JG P g=true→(execOp a.eval o).run P w=.ok (.enter g vals.toArray) w:=by
  intro vals hv hb
  have e1:args.map a.eval=vals.toArray:=by rw [← hv,← Array.toList_map,Array.toArray_toList]
  simp [execOp,hop,resolve,Act.eval,Deferred.ofValue,invoke,QdU hb,← e1]
 have hev:∀ (xs:List Operand) (ms:List MV),xs.map s.ev=ms→(xs.map a.eval).length=ms.length∧∀ (i:Nat) (m:MV) (u:Value),ms[i]? = some m→(xs.map a.eval)[i]? = some u→QgO L s k us m u:=by
  intro xs ms e
  subst e
  refine ⟨by simp,fun i m u hm hu=>?_⟩
  rw [List.getElem?_map] at hm hu
  cases hx:xs[i]? with
  | none=>rw [hx] at hm;cases hm
  | some x =>
   rw [hx] at hm hu
   cases hm;cases hu
   exact hs.ev x
 unfold QxR at h
 split at h
 ·rename_i j hargs
  obtain ⟨hb,h⟩:=Qn h
  simp only [Bool.and_eq_true] at hb
  have hg:=hb.1
  have hj:=Nat.eq_of_beq_eq_true hb.2
  cases h
  simp only [Y2,Option.some.injEq,Prod.mk.injEq] at hr
  obtain ⟨rfl,rfl⟩:=hr
  obtain ⟨hl,hat⟩:=hev _ _ hargs
  obtain ⟨u,hu⟩:∃ u,args.toList.map a.eval=[u]:=List.length_eq_one_iff.1 hl
  have hk:=hat 0 _ u rfl (by rw [hu];rfl) hj
  subst hk
  obtain ⟨hb,htx⟩:=hE.text g hg
  unfold Oper.wp
  rw [hexec hu hb,Oper.upon_enter]
  refine (htx w k h0 h1).mono fun e w'=>?_
  rintro ⟨b,rfl,q1,q2,q3⟩
  refine ⟨us,⟨by rw [TS.put_mv];exact Nat.le_refl _,fun _=>rfl⟩,hs.put rfl (Nat.le_refl _) (fun _=>rfl) (Nat.le_refl _) (fun _=>rfl) hd (m:=.txt j) (fun _=>⟨b,rfl,q1,q2⟩) (by rw [hj];exact Nat.le_refl _),?_,hc,h0,h1⟩
  obtain ⟨⟨arr,m1,m2,m3,m4⟩,m5,m6,m7,m8,m9,m10,m11,m12,⟨m13,m13'⟩,m14,m15⟩:=hm
  have hblk:∀ c,c<w.heap.size→w'.heap[c]? = w.heap[c]?:=fun c hc=>q3.block c hc
  refine ⟨⟨arr,by rw [hblk _ (by omega)];exact m1,m2,m3,m4⟩,QaI m5 (fun c hc=>hblk c (by have:=m13' c hc;omega)),m6,m7,m8,q3.os.trans m9,q3.tape.trans m10,q3.output.trans m11,Nat.le_trans m12 q3.size,⟨m13,m13'⟩,fun c h1 h2 h3=>(hblk c (by omega)).trans (m14 c h1 h2 h3),Nat.le_trans m15 q3.drawn⟩
 ·rename_i off t m j hargs
  obtain ⟨hb,h⟩:=Qn h
  simp only [Bool.and_eq_true] at hb
  obtain ⟨⟨⟨⟨hj,hmv⟩,hhot⟩,hfit⟩,hdok⟩:=hb
  have hj:=Nat.eq_of_beq_eq_true hj
  have hmv:=Nat.eq_of_beq_eq_true hmv
  have hfit:=Nat.le_of_ble_eq_true hfit
  cases h
  simp only [Y2,QaH] at hr
  split at hr
  case h_2=>cases hr
  rename_i x hx
  split at hr
  case isFalse=>cases hr
  rename_i hlt
  simp only [Option.bind_some,Option.some.injEq,Prod.mk.injEq] at hr
  obtain ⟨rfl,rfl⟩:=hr
  obtain ⟨hl,hat⟩:=hev _ _ hargs
  obtain ⟨u1,u2,hu⟩:∃ u1 u2,args.toList.map a.eval=[u1,u2]:=by
   generalize args.toList.map a.eval=l at hl
   match l,hl with
   | [u1,u2],_=>exact ⟨u1,u2,rfl⟩
  have hk:=hat 1 _ u2 rfl (by rw [hu];rfl) hj
  subst hk
  have hsub:=hat 0 _ u1 rfl (by rw [hu];rfl) hmv
  obtain ⟨hb,hmk⟩:=hE.hot g t hhot
  obtain ⟨⟨arr,m1,m2,m3,m4⟩,m5,m6,m7,m8,m9,m10,m11,m12,⟨m13,m13'⟩,m14,m15⟩:=hm
  obtain ⟨b1,b23,e1,d1,d23⟩:=QdT off m5
  obtain ⟨b2,b3,e2,d2,d3⟩:=QdT t.cells d23
  have hul:us.length=cs.length:=(QmA m5).symm
  have hD:=UK hdok hx d2
  have hU:QgD w t x u1 b2:=by
   unfold QgD
   cases hsc:t.scalar with
   | true =>
    rw [hsc] at hsub
    have hc1:t.cells=1:=by cases t<;>first | rfl | (simp [Ty.scalar] at hsc)
    rw [hc1] at hD
    have hlt:off<us.length:=by rw [hul];omega
    have e:(us.drop off).take 1=[u1]:=by
     have hsub:us[off]? = some u1:=hsub
     rw [List.drop_eq_getElem_cons hlt,List.take_succ_cons,List.take_zero]
     rw [List.getElem?_eq_getElem hlt] at hsub
     rw [Option.some.inj hsub]
    rw [e] at hD
    exact hD
   | false =>
    rw [hsc] at hsub
    exact ⟨_,hsub,hD⟩
  have hsubl:∀ c∈b2,c∈bs:=fun c hc=>by rw [e1,e2];simp [hc]
  have hbn:(b1++(b2++b3)).Nodup:=by rw [← e2,← e1];exact m8
  obtain ⟨n1,n23,n4⟩:=List.nodup_append.1 hbn
  obtain ⟨n2,n3,n5⟩:=List.nodup_append.1 n23
  unfold Oper.wp
  rw [hexec hu hb,Oper.upon_enter]
  refine (hmk w u1 b2 x k hU n2 h0 hlt).mono fun e w'=>?_
  rintro ⟨rfl,q2,q3⟩
  have hk':(Gl t x k).1=k+HS t x:=WU t x k
  have hblk:∀ c,c<w.heap.size→c∉b2→w'.heap[c]? = w.heap[c]?:=q3.block
  have hD':DeepD w' t (Gl t x k).2 ((us.drop off).take t.cells) b2:=by
   unfold QgD at q2 hU
   cases hsc:t.scalar with
   | true =>
    rw [hsc] at q2 hsub
    have hc1:t.cells=1:=by cases t<;>first | rfl | (simp [Ty.scalar] at hsc)
    rw [hc1]
    have hlt:off<us.length:=by rw [hul];omega
    have e:(us.drop off).take 1=[u1]:=by
     have hsub:us[off]? = some u1:=hsub
     rw [List.drop_eq_getElem_cons hlt,List.take_succ_cons,List.take_zero]
     rw [List.getElem?_eq_getElem hlt] at hsub
     rw [Option.some.inj hsub]
    rw [e]
    exact q2
   | false =>
    rw [hsc] at q2 hsub
    obtain ⟨arr',e,hq⟩:=q2
    have hsub:u1=_:=hsub
    rw [hsub] at e
    cases e
    simpa using hq
  have hnew:Z1.DeepVL w' (YO cs off (Qm t (Gl t x k).2)) us bs:=by
   have p1:Z1.DeepVL w' (cs.take off) (us.take off) b1:=QaI d1 fun c hc=>hblk c (by have:=m13' c (by rw [e1];simp [hc]);omega) fun hm=>n4 c hc c (by simp [hm]) rfl
   have p3:Z1.DeepVL w' ((cs.drop off).drop t.cells) ((us.drop off).drop t.cells) b3:=QaI d3 fun c hc=>hblk c (by have:=m13' c (by rw [e1,e2];simp [hc]);omega) fun hm=>n5 c hm c hc rfl
   have p2:=Um hD'
   have hj:=Qcp p1 (Qcp p2 p3)
   unfold YO
   rw [Jx,e1,e2,← List.drop_drop]
   have ec:us=us.take off++((us.drop off).take t.cells++(us.drop off).drop t.cells):=by rw [List.take_append_drop,List.take_append_drop]
   rw [List.append_assoc]
   rw [ec]
   exact hj
  have hspl:(YO cs off (Qm t (Gl t x k).2)).length=cs.length:=Qvo (by rw [Jx];omega)
  refine ⟨us,⟨by rw [TS.put_mv];exact Nat.le_refl _,fun _=>rfl⟩,hs.put (s1:={ s with ver:=s.ver+1 }) rfl (Nat.le_succ _) (fun e=>absurd e (by simp)) (Nat.le_refl _) (fun _=>rfl) hd (fun _=>rfl) (Nat.le_refl _),?_,by rw [hspl];exact hc,by omega,by omega⟩
  refine ⟨⟨arr,by rw [hblk _ (by omega) (fun hm=>m7 (hsubl _ hm))];exact m1,m2,by rw [hspl];exact m3,by rw [hspl];exact m4⟩,hnew,by rw [hspl];exact m6,m7,m8,q3.os.trans m9,q3.tape.trans m10,q3.output.trans m11,Nat.le_trans m12 q3.size,⟨m13,m13'⟩,fun c h1 h2 h3=>(hblk c (by omega) (fun hm=>h3 (hsubl c hm))).trans (m14 c h1 h2 h3),Nat.le_trans m15 q3.drawn⟩
 ·cases h
end
end Go.Ab
