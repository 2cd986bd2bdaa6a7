import Derived.Test.YtkabjoifaffddaaGreatAb29
import Derived.Maps.RangeRun
import Derived.Test.YtkabjoifaffddaaGreatAb25
namespace Go.Ab
noncomputable section
theorem QxT {w:World} {o:Obj}:(w.alloc o).heap.size=w.heap.size+1:=by unfold World.alloc;exact Array.size_push _
def TS.s1:TS:=⟨fun t=>match t with
 | 1=>.kk 0
 | 2=>.elp 0
 | _=>.any,0,0⟩
def QBm (s:TS):Bool:=match s.tm 1 with
 | .kk j=>Nat.beq j s.ver
 | _=>false
def QAu (nn:Nat) (r:List Oper):Bool:=match r with
 | [o1,o2]=>match o1.dst with
  | some d=>Nat.blt d nn&&Qt0 o1 d 1&&Qt0 o2 4 d
  | none=>false
 | _=>false
def QAv (E:TEnv) (nn:Nat):Code→TS→Option (TS × List Act1)
 | .seq (.region _ r false) .ret,s=>bif QAu nn r.toList&&QBm s then some (s,[]) else none
 | .seq x y,s=>match UT E nn x s with
  | some (s1,a1)=>match QAv E nn y s1 with
   | some (s2,a2)=>some (s2,a1++a2)
   | none=>none
  | none=>none
 | _,_=>none
theorem QxU {P:Program} {L:Pl} {nn:Nat} {w0:World} {arr0:Array Value} {T0:TypeId} {bs:List Nat} {E:TEnv} (hE:EnvOk E P L) (hnn:4<nn):∀ (c:Code) {Q:Exit→Act→World→Prop} {s s':TS} {k k':Int} {us:List Value} {a:Act} {w:World} {cs cs':List V} {as:List Act1},
  SimV L nn s k us a→Mem L w0 arr0 T0 cs us bs w→cs.length=E.m→0≤k→k≤ZT→QAv E nn c s=some (s',as)→Y2 as (cs,k)=some (cs',k') →
  (∀ a' w',Zs a' 4=.int .i64 k'→a'.defers=[]→(∃ us',(s.mv≤s'.mv∧(s'.mv=s.mv→us'=us))∧Mem L w0 arr0 T0 cs' us' bs w')→Q .ret a' w')→c.wp P Q a w:=by
 intro c
 induction c with
 | seq x y _ ihy =>
  intro Q s s' k k' us a w cs cs' as hs hm hc h0 h1 h hr hQ
  unfold QAv at h
  split at h
  ·rename_i c' s0 i r e
   simp only [Code.seq.injEq] at e
   obtain ⟨rfl,rfl⟩:=e
   obtain ⟨hb,h2⟩:=Qn h
   clear h
   simp only [Option.some.injEq,Prod.mk.injEq] at h2
   obtain ⟨rfl,rfl⟩:=h2
   simp only [Bool.and_eq_true] at hb
   obtain ⟨ht,hk⟩:=hb
   simp only [Y2,Option.some.injEq,Prod.mk.injEq] at hr
   obtain ⟨rfl,rfl⟩:=hr
   unfold QAu at ht
   split at ht
   case h_2=>cases ht
   rename_i o1 o2 er
   split at ht
   case h_2=>cases ht
   rename_i d hd
   simp only [Bool.and_eq_true] at ht
   obtain ⟨⟨hdn,z1⟩,z2⟩:=ht
   have hdn:d<nn:=Nat.le_of_ble_eq_true hdn
   have x1:Zs a 1=.int .i64 k:=by
    have:=hs.tm 1
    unfold QBm at hk
    split at hk
    ·rename_i j e;rw [e] at this;exact this (Nat.eq_of_beq_eq_true hk)
    ·cases hk
   refine wp_seq (wp_region_list ?_)
   rw [er]
   refine QwP z1 (QwP z2 ?_)
   show Code.wp _ _ _ _ _
   refine wp_ret (hQ _ _ ?_ hs.defers ⟨us,⟨Nat.le_refl _,fun _=>rfl⟩,hm⟩)
   have sz:(a.put (some d) (Zs a 1)).tmps.size=nn:=by rw [Hh];exact hs.size
   rw [UU (by rw [sz];omega),if_pos rfl,UU (by rw [hs.size];omega),if_pos rfl,x1]
  ·rename_i c' s0 x0 y0 hne e
   simp only [Code.seq.injEq] at e
   obtain ⟨rfl,rfl⟩:=e
   split at h
   case h_2=>cases h
   rename_i s1 a1 e1
   split at h
   case h_2=>cases h
   rename_i s2 a2 e2
   cases h
   rw [Qcq] at hr
   obtain ⟨⟨cs1,k1⟩,r1,r2⟩:=Option.bind_eq_some_iff.1 hr
   refine wp_seq (QdW hE x hs hm hc h0 h1 e1 r1 fun a' w'=>?_)
   rintro ⟨us',p0,p1,p2,p3,p4,p5⟩
   exact ihy p1 p2 p3 p4 p5 e2 r2 fun a w z1 z2 ⟨us'',q0,q⟩=>hQ a w z1 z2 ⟨us'',⟨Nat.le_trans p0.1 q0.1,fun e=>(q0.2 (by have:=p0.1;have:=q0.1;omega)).trans (p0.2 (by have:=p0.1;have:=q0.1;omega))⟩,q⟩
  ·cases h
 | _=>intro Q s s' k k' us a w cs cs' as hs hm hc h0 h1 h;simp [QAv] at h
def isBox (o:Oper):Bool:=match o.guard,o.dst,o.op with
 | none,some d,.box _ (.tmp x)=>Nat.beq d 2&&Nat.beq x 0
 | _,_,_=>false
def QBV (P:Program) (gt:Option Nat) (hs:List (Nat × Ty)) (t:Ty) (fn:Func):Code→Bool
 | .seq (.region _ r0 false) c =>
  Nat.ble 12 (fn.ntmps+6)&&t.mok&&(match fn.results.toList with
   | [.tmp 4]=>true
   | _=>false)&&(match r0.toList with
   | [o1,o2]=>isBox o1&&QAq o2 4
   | _=>false)&&(match QAv ⟨P,0,t.cells,gt,hs⟩ fn.ntmps c TS.s1 with
   | some (s',as)=>Nat.beq s'.mv 0&&(match QAn t 0 as with
    | some []=>true
    | _=>false)
   | none=>false)
 | _=>false
theorem QwR {w:World} {t:Ty} {x:t.den} {u:Value} {bs:List Nat} (ht:t.mok=true) (h:QgD w t x u bs):DeepD w t x u.cells.toList bs∧∀ (w':World) (x':t.den),DeepD w' t x' u.cells.toList bs→QgD w' t x' u bs:=by
 unfold QgD at h
 cases hsc:t.scalar with
 | false =>
  rw [hsc] at h
  obtain ⟨arr,rfl,h⟩:=h
  refine ⟨h,fun w' x' h'=>?_⟩
  unfold QgD
  rw [hsc]
  exact ⟨arr,rfl,h'⟩
 | true =>
  rw [hsc] at h
  have:u.cells.toList=[u]:=by
   cases t with
   | int k=>obtain ⟨⟨e,_⟩,_⟩:=h;simp only [List.cons.injEq,and_true] at e;subst e;rfl
   | bool=>obtain ⟨e,_⟩:=h;simp only [List.cons.injEq,and_true] at e;subst e;rfl
   | str=>obtain ⟨⟨s,e,_⟩,_⟩:=h;simp only [List.cons.injEq,and_true] at e;subst e;rfl
   | list t=>obtain ⟨a,cap,e,_⟩:=h;simp only [List.cons.injEq,and_true] at e;subst e;rfl
   | unit=>cases hsc
   | pair a b=>cases hsc
   | _=>cases ht
  rw [this]
  refine ⟨h,fun w' x' h'=>?_⟩
  unfold QgD
  rw [hsc]
  exact h'
theorem QxV {P:Program} {g:Nat} {gt:Option Nat} {hs:List (Nat × Ty)} {t:Ty} {fn:Func} {c:Code} (hf:P.funcs[g]? = some fn) (hb:fn.body=some c) (he:JG P g=true) (htext:∀ g,Qzl gt g=true→QjJ P g) (hhot:∀ g t,QhV g t hs=true→Wp P g t)
  (hchk:QBV P gt hs t fn c=true):Wp P g t:=by
 unfold QBV at hchk
 split at hchk
 case h_2=>cases hchk
 rename_i i0 r0 c
 simp only [Bool.and_eq_true] at hchk
 obtain ⟨⟨⟨⟨hnt,htk⟩,hres⟩,hr0⟩,hbody⟩:=hchk
 have hnt:=Nat.le_of_ble_eq_true hnt
 split at hres
 case h_2=>cases hres
 rename_i hres'
 split at hr0
 case h_2=>cases hr0
 rename_i o1 o2 e0
 simp only [Bool.and_eq_true] at hr0
 obtain ⟨hbox,hk0⟩:=hr0
 unfold isBox at hbox
 split at hbox
 case h_2=>cases hbox
 rename_i d T0 x0 hg hd hop
 simp only [Bool.and_eq_true] at hbox
 obtain rfl:=Nat.eq_of_beq_eq_true hbox.1
 obtain rfl:=Nat.eq_of_beq_eq_true hbox.2
 split at hbody
 case h_2=>cases hbody
 rename_i s' as ecode
 simp only [Bool.and_eq_true] at hbody
 obtain ⟨hmv,heat⟩:=hbody
 have hmv:=Nat.eq_of_beq_eq_true hmv
 split at heat
 case h_2=>cases heat
 rename_i heat'
 refine ⟨he,fun w u bs x k hD hnd h0 h1=>?_⟩
 obtain ⟨hDc,hback⟩:=QwR htk hD
 refine calls_of_wp hf hb ?_
 let a0:Act:={ tmps:=#[u,.int .i64 k]++Array.replicate (fn.ntmps - (#[u,Value.int .i64 k]:Array Value).size) undef,defers:=[] }
 have a0s:a0.tmps.size=fn.ntmps:=by simp [a0];omega
 have t0:Zs a0 0=u:=by simp only [Zs,a0,Array.getD_eq_getD_getElem?];rw [Array.getElem?_append_left (by simp)];rfl
 have t1:Zs a0 1=.int .i64 k:=by simp only [Zs,a0,Array.getD_eq_getD_getElem?];rw [Array.getElem?_append_left (by simp)];rfl
 let w1:=w.alloc (.cells u.cells T0)
 let p:Value:=.pointer (some ⟨w.heap.size,0,none⟩)
 have hrunb:(execOp a0.eval o1).run P w=.ok (.value p) w1:=by
  have:(Instr.box T0 (a0.eval (.tmp 0))).run P w=.ok p w1:=by
   rw [show a0.eval (.tmp 0)=u from t0]
   unfold Instr.box
   simp only [Sem.run_bind,Result.andThen_ok,Qmx,Sem.run_pure]
   rfl
  simp only [execOp,hop,Sem.run_bind,this]
  rfl
 refine wp_seq (wp_region_list ?_)
 rw [e0]
 refine wpList_plain hg fun K hK=>?_
 unfold Oper.wp
 show o1.upon P a0 K _ ((execOp a0.eval o1).run P w)
 rw [hrunb,Oper.upon_value,hd]
 refine hK _ _ (QBC hk0 ?_)
 show Code.wp _ _ _ _ w1
 let a1:=a0.put (some 2) p
 let a2:=a1.put (some 4) (.int .i64 0)
 have s1:a1.tmps.size=fn.ntmps:=by simp only [a1,Hh];exact a0s
 have s2:a2.tmps.size=fn.ntmps:=by simp only [a2,Hh];exact s1
 have v1:∀ t,Zs a1 t=if t=2 then p else Zs a0 t:=UU (by omega) _
 have v2:∀ t,Zs a2 t=if t=4 then .int .i64 0 else Zs a1 t:=UU (by omega) _
 have hDc1:DeepD w1 t x u.cells.toList bs:=hDc.stays fun c hc=>by
  exact RowKit.Below.heap_alloc w _ c (hDc.lt c hc)
 have hlen:=hDc.len
 have hhb:w1.heap[w.heap.size]? = some (.cells u.cells T0 (0,0)):=(MapKept.heap_alloc w _).1
 have hw1:w1.heap.size=w.heap.size+1:=QxT
 let L:Pl:=⟨.slice (some ⟨w.heap.size,0,none⟩) 1 1,1,0,w.heap.size,0⟩
 have hE:EnvOk ⟨P,0,t.cells,gt,hs⟩ P L:=⟨rfl,htext,hhot,⟨0,1,rfl,by simp [L]⟩,by simp only [L];omega⟩
 have hsim:SimV L fn.ntmps TS.s1 k u.cells.toList a2:=by
  refine ⟨⟨fun t=>?_,s2,rfl⟩,fun t=>?_⟩
  ·show QgO _ _ _ _ (TS.s1.tm t) (Zs a2 t)
   unfold TS.s1
   simp only
   split
   ·intro _;rw [v2,if_neg (by decide),v1,if_neg (by decide),t1]
   ·show Zs a2 2=_;rw [v2,if_neg (by decide),v1,if_pos rfl]
   ·trivial
  ·unfold TS.s1
   simp only
   split<;>first | trivial | exact Nat.le_refl _
 have hmem:Mem L w1 u.cells T0 (Qm t x) u.cells.toList bs w1:=by
  have hel:=Jx t x
  have hul:u.cells.toList.length=u.cells.size:=Array.length_toList
  refine ⟨⟨u.cells,hhb,rfl,fun _ _=>rfl,?_⟩,Um hDc1,?_,fun hm=>?_,hnd,rfl,rfl,rfl,Nat.le_refl _,⟨?_,fun c hc=>hDc1.lt c hc⟩,fun _ _ _ _=>rfl,Nat.le_refl _⟩
  ·rw [hel,← hlen];show _=List.take _ (u.cells.toList.drop 0);rw [List.drop_zero,List.take_length]
  ·rw [hel];show 0+t.cells≤_;omega
  ·exact Nat.lt_irrefl _ (hDc.lt _ hm)
  ·exact (Array.getElem?_eq_some_iff.1 hhb).1
 have hrun:=QsU t (EP htk) x [] [] k as [] heat' h0 h1
 simp only [List.nil_append,List.append_nil,Y2] at hrun
 refine QxU hE (by omega) c hsim hmem (Jx t x) h0 (by omega) ecode hrun fun a' w' z1 z2=>?_
 rintro ⟨us',q0,hm'⟩
 have hus:=q0.2 (by rw [hmv];rfl)
 subst hus
 refine ⟨z2,_,Qip hres' _ _,by rw [z1],?_,?_⟩
 ·refine hback _ _ ?_
  exact UK (EP htk) (QbS t _ (EP htk)) hm'.deep
 ·obtain ⟨_,_,_,_,_,m9,m10,m11,m12,⟨m13,m13'⟩,m14,m15⟩:=hm'
  refine ⟨m9,m10,m11,Nat.le_trans ?_ m12,fun c c1 c2=>?_,Nat.le_trans (Nat.le_refl w.drawn) m15⟩
  ·rw [hw1];exact Nat.le_succ _
  ·rw [m14 c (by rw [hw1];omega) (Nat.ne_of_lt c1) c2]
   exact RowKit.Below.heap_alloc w _ c c1
open Classical in
def Qet (t:Ty) (x:t.den) (k:Int):Option (Int × t.den):=if 0≤k∧k+HS t x≤ZT then some (Gl t x k) else none
theorem QvO {P:Program} {gl:Nat→Option (List V)} {g:Nat} {t:Ty} (hlt:Nat.blt g Q2=true) (ht:t.mok=true) (hp:(match t with | .pair _ _=>true | .list _=>true | _=>false)=true) (h:Wp P g t):CtrOkG P gl (QwJ g t fun x=>Qet t x.1 x.2.1):=by
 intro xs y hy
 have hge:VY≤g+VY:=Nat.le_add_left _ _
 have hg:(QwJ g t fun x=>Qet t x.1 x.2.1).g=g+VY:=rfl
 rw [hg]
 refine ⟨fun h1=>(Nat.lt_irrefl _ (Nat.lt_of_lt_of_le h1 (Nat.le_trans QaE.2.1 hge))).elim,fun _ h1=>(Nat.lt_irrefl _ (Nat.lt_of_lt_of_le h1 (Nat.le_trans QaE.2.2 hge))).elim,fun _ h1=>(Nat.lt_irrefl _ (Nat.lt_of_lt_of_le h1 hge)).elim,fun _ _=>?_,fun h1 _=>(Nat.lt_irrefl _ (Nat.lt_of_lt_of_le (Qk0 (US hlt)) h1)).elim,fun h1 _=>(Nat.lt_irrefl _ (Nat.lt_of_lt_of_le (Qk0 (US hlt)) (Nat.le_trans box_le.2.2.2 h1))).elim,fun h1=>(Nat.lt_irrefl _ (Nat.lt_of_lt_of_le (Qk0 (US hlt)) (Nat.le_trans Qeq.2.2.2.1 h1))).elim⟩
 rw [Nat.add_sub_cancel]
 obtain ⟨x,k,⟨⟩⟩:=xs
 have hy:Qet t x k=some y:=hy
 unfold Qet at hy
 split at hy
 case isFalse=>cases hy
 rename_i hb
 cases hy
 intro x' k0 k' b ha hv
 have ha:[JO t x,.d (.int .i64) k]=[x',.d (.int .i64) k0]:=ha
 have hv:V.tup [.d (.int .i64) (Gl t x k).1,JO t (Gl t x k).2]=.tup [.d (.int .i64) k',b]:=hv
 simp only [List.cons.injEq,V.d.injEq,heq_eq_eq,true_and,and_true] at ha
 obtain ⟨rfl,rfl⟩:=ha
 simp only [V.tup.injEq,List.cons.injEq,V.d.injEq,heq_eq_eq,true_and,and_true] at hv
 obtain ⟨rfl,rfl⟩:=hv
 refine ⟨h.1,fun w u bs _ hD hnd hk=>?_⟩
 have hk':inK .i64 (Gl t x k).1=true:=by
  rw [WU]
  exact QjK (by omega) hb.2
 have hpk:∀ (y:t.den),Y1 t (JO t y)=some y:=by
  intro y
  cases t with
  | pair a b=>exact QbS (.pair a b) y (EP ht)
  | list t=>exact QbS (.list t) y (EP (t:=.list t) ht)
  | _=>cases hp
 refine (h.2 w u bs x k (QhK (EP ht) (hpk x) hD) hnd hb.1 hb.2).mono fun e w'=>?_
 rintro ⟨rfl,q2,q3⟩
 refine ⟨rfl,hk',?_,q3⟩
 cases t with
 | pair a b =>
  obtain ⟨arr,rfl,q2⟩:=q2
  exact ⟨arr,rfl,Um q2⟩
 | list t=>exact q2
 | _=>cases hp
theorem QA6 {P:Program} {g:Nat} {f:HJ [.int .i64]→Option (Wf [.str])} (hlt:Nat.blt g Q2=true) (h:G4 P ⟨g,[.int .i64],[.str],f⟩) (hf:∀ k:Int,0≤k→k≤ZT→f (k,())=some (QgN k)):QjJ P g:=by
 have key:=fun (k:Int) (h0:0≤k) (h1:k≤ZT)=>(h (k,()) (QgN k) (hf k h0 h1)).1 (US hlt)
 refine ⟨(key 0 (by decide) (by decide)).1,fun w k h0 h1=>?_⟩
 obtain ⟨_,_,a3⟩:=key k h0 h1
 refine (a3 QA5 w [.int .i64 k] ?_ (fun _ _ h=>by cases h) rfl ?_).mono fun e w'=>?_
 ·exact fun _ _ h=>by cases h
 ·intro i c u hc hu
  cases i with
  | zero =>
   cases hc;cases hu
   exact .mkInt (QjK h0 h1)
  | succ i=>simp at hu
 ·rintro ⟨u,F',rfl,_,_,q3,q4⟩
  have q4:RelV _ (.d .str (QgN k)) u:=q4
  obtain ⟨b,rfl,e,hsz⟩:=q4.str_inv
  exact ⟨b,rfl,e,hsz,q3⟩
theorem Qzn {P:Program}:∀ g,Qzl none g=true→QjJ P g:=fun _ h=>by cases h
theorem Ha {P:Program} {t:Nat} (h:QjJ P t):∀ g,Qzl (some t) g=true→QjJ P g:=fun g hg=>by
 obtain rfl:=Nat.eq_of_beq_eq_true hg
 exact h
theorem HT {P:Program}:∀ g t,QhV g t []=true→Wp P g t:=fun _ _ h=>by cases h
theorem UN {P:Program} {g0:Nat} {t0:Ty} {l:List (Nat × Ty)} (h:Wp P g0 t0) (hl:∀ g t,QhV g t l=true→Wp P g t):∀ g t,QhV g t ((g0,t0)::l)=true→Wp P g t:=fun g t hg=>by
 simp only [QhV,Bool.or_eq_true,Bool.and_eq_true] at hg
 rcases hg with ⟨h1,h2⟩ | hg
 ·rw [Nat.eq_of_beq_eq_true h1,Ty.beq_eq h2];exact h
 ·exact hl g t hg
end
end Go.Ab
namespace Go.Ab
theorem QBD {t:Ty} {f:t.den→Option t.den} (hf:∀ x:t.den,wfD t x→t.size x≤1073741824→f x=some x) {L:Nat→List t.den→Int→List t.den→Option (List t.den)} {d z:t.den} {by_:Nat} (hby:by_≤100000)
  (hL:∀ n xs i out,L (n+1) xs i out=bif decide (i<(xs.length:Int)) then bif inB i xs.length then (Option.bind (f (rd xs i d)) fun y=>bif inB i out.length then
   bif inB i out.length&&true&&true&&true&&true&&true&&true then L n xs (IntKind.wrap .i64 (i+1)) (out.set (Int.toNat i) y) else none else none) else none else some out)
  {a0 y:List t.den} (hy:toC (.list t) a0=some y):∃ n,(bif decide ((a0.length:Int)=(a0.length:Int))&&decide ((0:Int)≤(a0.length:Int))&&decide ((a0.length:Int)*(by_:Int)≤Q4)&&true&&true&&true then L n a0 0 (List.replicate (Int.toNat (a0.length:Int)) z) else none)=some y:=by
 obtain ⟨hw,hs,rfl⟩:=QrS hy
 obtain ⟨hl,hx⟩:=QjG hw
 have hsz:(Ty.list t).size y=y.length+(y.map t.size).sum:=rfl
 have hel:∀ x∈y,t.size x≤1073741824:=by
  intro x hm
  have:=QvK (List.mem_map_of_mem (f:=t.size) hm)
  omega
 have hroom:(y.length:Int)*(by_:Int)≤Q4:=by
  have h1:(y.length:Int)≤1073741824:=by omega
  have h2:(by_:Int)≤100000:=by omega
  have h3:=Int.mul_le_mul h1 h2 (by omega) (by omega)
  rw [Xf]
  omega
 refine ⟨y.length+1,?_⟩
 rw [decide_eq_true rfl,decide_eq_true (by omega:(0:Int)≤(y.length:Int)),decide_eq_true hroom]
 simp only [Bool.and_self,cond_true]
 have hbody:=QhT (L:=fun n s i=>L n y i s) (fin:=some) (d:=d) hl (body:=fun x i s K=>Option.bind (f x) fun y=>bif inB i s.length then bif inB i s.length&&true&&true&&true&&true&&true&&true then K (s.set (Int.toNat i) y) else none else none) (fun n s i=>hL n y i s) (y.length+1) 0
 have hgo:∀ (xs pre:List t.den),(∀ x∈xs,wfD t x∧t.size x≤1073741824)→QhS (fun x (i:Int) (s:List t.den) K=>Option.bind (f x) fun y=>bif inB i s.length then bif inB i s.length&&true&&true&&true&&true&&true&&true then K (s.set (Int.toNat i) y) else none else none) some pre.length xs (pre++List.replicate xs.length z)=some (pre++xs):=by
  intro xs
  induction xs with
  | nil=>intro pre _;simp [QhS]
  | cons x xs ih =>
   intro pre hh
   simp only [QhS]
   rw [hf x (hh x (by simp)).1 (hh x (by simp)).2]
   simp only [Option.bind_some]
   have hin:inB (pre.length:Int) (pre++List.replicate (x::xs).length z).length=true:=Vr.2 (by simp;omega)
   rw [hin]
   simp only [Bool.and_self,cond_true,Int.toNat_natCast,List.length_cons]
   rw [QwK]
   have:=ih (pre++[x]) (fun w hw=>hh w (by simp [hw]))
   simp only [List.length_append,List.length_singleton] at this
   rw [this]
   simp
 have h2:=hgo y [] (fun x hm=>⟨hx x hm,hel x hm⟩)
 simp only [List.nil_append,List.length_nil] at h2
 have h3:=hbody (List.replicate (Int.toNat (y.length:Int)) z) (Nat.zero_le _) (by omega)
 simp only [Int.toNat_natCast,List.drop_zero] at h3
 simp only [Int.toNat_natCast]
 exact h3.trans h2
def Ty.wid:Ty→Nat | .int _=>1 | .bool=>1 | .str=>1 | .unit=>0 | .pair a b=>a.wid+b.wid | .list t=>t.wid | .map _ _=>0 | .tree _=>0
theorem QxW {α:Type} {f g:α→Nat} {W:Nat} (h:∀ x,f x≤W*(g x+1)):∀ xs:List α,(xs.map f).sum≤W*(xs.length+(xs.map g).sum)
 | []=>by simp
 | x::xs=>by
  have h1:=h x
  have h2:=QxW h xs
  simp only [List.map_cons,List.sum_cons,List.length_cons]
  have e:W*(xs.length+1+(g x+(xs.map g).sum))=W*(g x+1)+W*(xs.length+(xs.map g).sum):=by rw [← Nat.mul_add];congr 1;omega
  omega
theorem QnZ:∀ (t:Ty) (x:t.den),Wo t x≤t.wid*(t.size x+1)
 | .int _,_=>by simp [Wo,Ty.wid,Ty.size]
 | .bool,_=>by simp [Wo,Ty.wid,Ty.size]
 | .str,x=>by simp only [Wo,Ty.wid];omega
 | .unit,_=>by simp [Wo]
 | .pair a b,x=>by
  have h1:=QnZ a x.1
  have h2:=QnZ b x.2
  simp only [Wo,Ty.wid,Ty.size]
  have e1:a.wid*(a.size x.1+1)≤a.wid*(a.size x.1+b.size x.2+1):=Nat.mul_le_mul_left _ (by omega)
  have e2:b.wid*(b.size x.2+1)≤b.wid*(a.size x.1+b.size x.2+1):=Nat.mul_le_mul_left _ (by omega)
  rw [Nat.add_mul]
  omega
 | .list t,xs=>by
  have h:=QxW (QnZ t) (show List t.den from xs)
  simp only [Wo,Ty.wid,Ty.size]
  have e:t.wid*(List.length (α:=t.den) xs+(List.map t.size xs).sum)≤t.wid*(List.length (α:=t.den) xs+(List.map t.size xs).sum+1):=Nat.mul_le_mul_left _ (by omega)
  exact Nat.le_trans h e
 | .map _ _,_=>by simp [Wo]
 | .tree _,_=>by simp [Wo]
theorem QsX:∀ (t:Ty) (x:t.den),HS t x≤t.wid*t.size x
 | .int _,_=>by simp [HS]
 | .bool,_=>by simp [HS]
 | .str,x=>by simp [HS]
 | .unit,_=>by simp [HS]
 | .pair a b,x=>by
  have h1:=QsX a x.1
  have h2:=QsX b x.2
  simp only [HS,Ty.wid,Ty.size]
  have e1:a.wid*a.size x.1≤a.wid*(a.size x.1+b.size x.2):=Nat.mul_le_mul_left _ (by omega)
  have e2:b.wid*b.size x.2≤b.wid*(a.size x.1+b.size x.2):=Nat.mul_le_mul_left _ (by omega)
  rw [Nat.add_mul]
  omega
 | .list t,xs=>QxW (QnZ t) (show List t.den from xs)
 | .map _ _,_=>by simp [HS]
 | .tree _,_=>by simp [HS]
theorem QmM {t:Ty} {x:t.den} {k:Int} (h0:0≤k) (h1:k+HS t x≤ZT):Qet t x k=some (Gl t x k):=by
 unfold Qet
 rw [if_pos ⟨h0,h1⟩]
theorem QsY {t:Ty} {x:t.den} {n:Nat} (hs:t.size x≤n) (hw:t.wid≤100000):HS t x≤100000*n:=Nat.le_trans (QsX t x) (Nat.mul_le_mul hw hs)
end Go.Ab
namespace Go.Ab
section
variable {P:Program} {ops:Array Oper} {Q:Exit→Act→World→Prop} {a:Act} {w:World} {rest:List Oper} {o:Oper} {d x y:Nat}
end
end Go.Ab
namespace Go.Ab
def QhW (c:Int):Bool:=decide (48≤c)&&decide (c≤57)
def QgP (c:Int):Bool:=(decide (97≤c)&&decide (c≤122))||(decide (65≤c)&&decide (c≤90))
def QhX (c:Int):Bool:=QgP c||QhW c||decide (c=95)
def QrU (c:Int):Bool:=decide (32≤c)&&decide (c≤126)
def HB (a b:Int):Int:=bif decide (a<b) then -1 else bif decide (b<a) then 1 else 0
def Jj (s:List Int):Bool:=decide (1≤s.length)&&decide (s.length≤30)&&!(QhW (rd s 0 0))&&s.all QhX
def QhY (s:List Int):Bool:=s.all QrU
def QgQ (s:List Int) (least most:Int):Bool:=!decide ((s.length:Int)<least)&&!decide (most<(s.length:Int))&&s.all QrU
def QdX:List Int→List Int→Int | x::a,y::b=>bif decide (x=y) then QdX a b else HB x y | a,b=>HB a.length b.length
theorem QwS (l:List Int):QdX [] l=HB 0 l.length:=by cases l<;>rfl
theorem QvP (l:List Int):QdX l []=HB l.length 0:=by cases l<;>rfl
def Ga (a b:List Int):Int:=bif Zn a b then -1 else bif Zn b a then 1 else 0
def bytesL (s:List Int):Prop:=∀ b∈s,0≤b∧b≤255
theorem bytesL.tail {x:Int} {s:List Int} (h:bytesL (x::s)):bytesL s:=fun b hb=>h b (by simp [hb])
theorem Qk6 {s:List Int} (h:wfD .str s):bytesL s:=fun b hb=>by have:=h.2 b hb;rw [VZ,Qmr,Qms] at this;exact this
theorem QaJ {s:List Int} (h:wfD .str s):s.length≤maxLen:=QyB h
theorem QqK:∀ (a b:List Int),QdX a b=Ga a b
 | [],[]=>rfl
 | [],y::b=>by simp only [QdX,Ga,Zn,HB];grind
 | x::a,[]=>by simp only [QdX,Ga,Zn,HB];grind
 | x::a,y::b=>by
  have ih:=QqK a b
  unfold QdX Ga Zn
  by_cases h:x=y
  ·subst h
   simp [ih,Ga]
  ·simp [h,HB]
   grind
theorem Qar (a b:List Int):decide (0≤Ga a b)=!Zn a b:=by unfold Ga;grind
theorem QjL {x:Int} (h:-9223372036854775808≤x∧x≤9223372036854775807):IntKind.wrap .i64 x=x:=Qgk h
theorem QBE (k:Nat):decide ((0:Int)≤(k:Int))=true:=decide_eq_true (by omega)
theorem Qn0 (a b:Bool):(a&&b)=bif a then b else false:=by cases a<;>rfl
theorem QvQ (a b:Bool):(a||b)=bif a then true else b:=by cases a<;>rfl
theorem WV {α:Type} (c:Bool) (a b:α):some (bif c then a else b)=bif c then some a else some b:=by cases c<;>rfl
theorem QaK (p:Prop) [Decidable p]:some (decide p)=bif decide p then some true else some false:=by cases decide p<;>rfl
def Zp {α:Type} (xs:List α) (k:Nat):Option α:=if k=0 then none else xs[k - 1]?
theorem ZI {α:Type} (xs:List α):Zp xs 0=none:=rfl
theorem VL {α:Type} {xs rest:List α} {e d:α} {k:Nat} (hl:xs.length≤maxLen) (h:e::rest=xs.drop k) :
  rest=xs.drop (k+1)∧Zp xs (k+1)=some e∧k<xs.length∧e∈xs ∧
   (k=0∨(0<k∧inB (IntKind.wrap .i64 ((k:Int) - 1)) xs.length=true∧Zp xs k=some (rd xs (IntKind.wrap .i64 ((k:Int) - 1)) d)∧rd xs (IntKind.wrap .i64 ((k:Int) - 1)) d∈xs)):=by
 obtain ⟨hk,hx,hr⟩:=Qaq (d:=d) h
 have e1:xs[k]? = some e:=by rw [List.getElem?_eq_getElem hk];rw [QsT (List.getElem?_eq_getElem hk)] at hx;rw [hx]
 refine ⟨hr,?_,hk,List.mem_of_getElem? e1,?_⟩
 ·unfold Zp;rw [if_neg (by omega),Nat.add_sub_cancel];exact e1
 ·rcases Nat.eq_zero_or_pos k with h0 | h0
  ·exact .inl h0
  ·right
   obtain ⟨j,rfl⟩:∃ j,k=j+1:=⟨k - 1,by omega⟩
   have hw:IntKind.wrap .i64 (((j+1:Nat):Int) - 1)=(j:Int):=Qzj hl (by omega)
   have hj:=List.getElem?_eq_getElem (show j<xs.length by omega)
   rw [hw]
   refine ⟨h0,YS (by omega),?_,?_⟩
   ·unfold Zp;rw [if_neg (by omega),Nat.add_sub_cancel,QsT hj];exact hj
   ·rw [QsT hj];exact List.getElem_mem _
def QM {α:Type} (lt:α→α→Bool):Option α→List α→Bool | _,[]=>true | none,x::r=>QM lt (some x) r | some p,x::r=>lt p x&&QM lt (some x) r
def Q9 {α:Type} (lt:α→α→Bool) (l:List α):Bool:=QM lt none l
theorem ZD {α:Type} (lt:α→α→Bool) (p:Option α):QM lt p []=true:=by cases p<;>rfl
theorem Hb {α:Type} (lt:α→α→Bool) (p:Option α) (x:α) (r:List α):QM lt p (x::r)=((match p with | none=>true | some q=>lt q x)&&QM lt (some x) r):=by
 cases p<;>simp [QM]
theorem QrV {α:Type} (p q:α→Bool):∀ l:List α,(l.all p&&l.all q)=l.all fun x=>p x&&q x
 | []=>rfl
 | x::l=>by simp only [List.all_cons,← QrV p q l];cases p x<;>cases q x<;>simp
abbrev Atm:Type:=Int × Int × List Int × List Int
def Qzo (n:Int):Int:=2 ^ n.toNat
def Hi (a:Atm):Bool :=
 let bare:=decide (a.2.2.1=[])&&decide (a.2.2.2=[])
 bif decide (a.1=1) then bare&&(decide (a.2.1=0)||decide (a.2.1=1))
 else bif decide (a.1=2) then bare
 else bif decide (a.1=3) then decide (a.2.1=0)&&decide (a.2.2.2=[])&&QgQ a.2.2.1 0 200
 else bif decide (a.1=4) then decide (a.2.1=0)&&Jj a.2.2.2&&QgQ a.2.2.1 1 200
 else bif decide (a.1=5) then bare
 else bif decide (a.1=6) then bare&&decide (0≤a.2.1)&&decide (a.2.1.tmod 64≤32)&&decide (a.2.1.tdiv 64<4294967296)&&decide ((a.2.1.tdiv 64).tmod (Qzo (32 - a.2.1.tmod 64))=0)
 else bif decide (a.1=7) then bare&&decide (-100000000000≤a.2.1)&&decide (a.2.1≤100000000000)
 else false
def QgR (a b:Atm):Bool:=decide (a.1<b.1)||(decide (a.1=b.1)&&(decide (a.2.1<b.2.1)||(decide (a.2.1=b.2.1)&&(Zn a.2.2.2 b.2.2.2||(decide (a.2.2.2=b.2.2.2)&&Zn a.2.2.1 b.2.2.1)))))
def Qk7 (a b:Atm):Int:=bif !decide (HB a.1 b.1=0) then HB a.1 b.1 else bif !decide (HB a.2.1 b.2.1=0) then HB a.2.1 b.2.1 else bif !decide (Ga a.2.2.2 b.2.2.2=0) then Ga a.2.2.2 b.2.2.2 else Ga a.2.2.1 b.2.2.1
theorem QdY:∀ a:List Int,Zn a a=false
 | []=>rfl
 | x::a=>by simp [Zn,QdY a]
theorem QqL:∀ a b:List Int,a≠b→Zn a b=false→Zn b a=true
 | [],[],h,_=>absurd rfl h
 | [],y::b,_,h=>by simp [Zn] at h
 | x::a,[],_,_=>rfl
 | x::a,y::b,h,h2=>by
  have ih:=QqL a b
  simp only [Zn] at h2 ⊢
  grind
theorem QqM:∀ a b c:List Int,Zn a b=true→Zn b c=true→Zn a c=true
 | [],_,[],h,h2=>by cases ‹List Int›<;>simp [Zn] at h h2
 | [],_,z::c,_,_=>rfl
 | x::a,[],c,h,_=>by simp [Zn] at h
 | x::a,y::b,[],_,h2=>by simp [Zn] at h2
 | x::a,y::b,z::c,h,h2=>by
  have ih:=QqM a b c
  simp only [Zn] at h h2 ⊢
  grind
theorem QqN (a b:List Int):decide (Ga a b=0)=decide (a=b):=by
 unfold Ga
 by_cases h:a=b
 ·subst h;simp [QdY]
 ·cases h1:Zn a b with
  | true=>simp [h]
  | false=>simp [QqL a b h h1,h]
theorem QsZ (a b:Atm):decide (0≤Qk7 a b)=!QgR a b:=by
 have h:=QqN a.2.2.2 b.2.2.2
 have h1:=Qar a.2.2.2 b.2.2.2
 have h2:=Qar a.2.2.1 b.2.2.1
 unfold Qk7 QgR HB
 grind
abbrev Val:Type:=Int × Atm × List Atm × List (List Int)
def Qed (v:Val):Bool:=bif decide (v.1=1) then Hi v.2.1&&decide (v.2.2.1.length=0)&&decide (v.2.2.2.length=0) else bif decide (v.1=2) then decide (v.2.1=(0,0,[],[]))&&decide (v.2.2.1.length≤50)&&decide (v.2.2.2.length=0)&&(v.2.2.1.all Hi&&Q9 QgR v.2.2.1) else bif decide (v.1=3) then decide (v.2.1=(0,0,[],[]))&&decide (v.2.2.1.length≤50)&&decide (v.2.2.2.length=v.2.2.1.length)&&v.2.2.2.all Jj&&Q9 Zn v.2.2.2&&v.2.2.1.all Hi else false
theorem QAw {left:Int} {n:Nat} (h:decide (Vn left n<0)=false):(n:Int)≤left∧0≤Vn left n∧Vn left n≤left:=by
 have hd:=of_decide_eq_false h
 unfold Vn at hd ⊢
 split at hd
 ·rename_i h1;rw [if_pos h1];omega
 ·omega
end Go.Ab
