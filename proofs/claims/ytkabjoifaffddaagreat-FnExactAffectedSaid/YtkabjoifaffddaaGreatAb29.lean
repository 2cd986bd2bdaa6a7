import Derived.Test.YtkabjoifaffddaaGreatAb28
namespace Go.Ab
def Qt0 (o:Oper) (d x:Nat):Bool :=
 match o.guard,o.dst,o.op with
 | none,some d',.move (.tmp x')=>Nat.beq d d'&&Nat.beq x x'
 | none,some d',.assign (.tmp x')=>Nat.beq d d'&&Nat.beq x x'
 | _,_,_=>false
def QAq (o:Oper) (d:Nat):Bool :=
 match o.guard,o.dst,o.op with
 | none,some d',.assign (.const (.int .i64 n))=>Nat.beq d d'&&decide (n=0)
 | _,_,_=>false
def QAr (P:Program) (tl:TypeId) (o:Oper) (d x:Nat):Bool :=
 match o.guard,o.dst,o.op with
 | none,some d',.call { callee:=.builtin .len,args,argTypes }=>match args.toList,argTypes.toList with
  | [.tmp x'],[t]=>Nat.beq d d'&&Nat.beq x x'&&Nat.beq t tl&&(match P.underlying t with
   | some (.slice _)=>true
   | _=>false)
  | _,_=>false
 | _,_,_=>false
def QAs (P:Program) (o:Oper) (d x y:Nat):Bool :=
 match o.guard,o.dst,o.op with
 | none,some d',.binOp .lss t (.tmp x') (.tmp y') _=>Nat.beq d d'&&Nat.beq x x'&&Nat.beq y y'&&(match P.underlying t with
  | some (.int .i64)=>true
  | _=>false)
 | _,_,_=>false
def QAt (P:Program) (o:Oper) (d x:Nat):Bool :=
 match o.guard,o.dst,o.op with
 | none,some d',.binOp .add t (.tmp x') (.const (.int .i64 n)) _=>Nat.beq d d'&&Nat.beq x x'&&decide (n=1)&&(match P.underlying t with
  | some (.int .i64)=>true
  | _=>false)
 | _,_,_=>false
def Zs (a:Act) (t:Nat):Value:=a.tmps.getD t undef
section
variable {P:Program} {ops:Array Oper} {Q:Exit→Act→World→Prop} {a:Act} {w:World} {rest:List Oper} {o:Oper} {d x y:Nat}
theorem UU (h:d<a.tmps.size) (u:Value) (t:Nat):Zs (a.put (some d) u) t=if t=d then u else Zs a t:=Qse _ _ _ _ h
theorem Hh (u:Value):(a.put (some d) u).tmps.size=a.tmps.size:=by simp [Act.put]
theorem QrT {u:Value} (hg:o.guard=none) (hd:o.dst=some d) (hrun:(execOp a.eval o).run P w=.ok (.value u) w) (h:wpList P ops Q rest (a.put (some d) u) w):wpList P ops Q (o::rest) a w:=by
 refine wpList_plain hg fun K hK=>?_
 refine QnY hrun ?_
 rw [hd]
 exact hK _ _ h
theorem QwP (h:Qt0 o d x=true) (hr:wpList P ops Q rest (a.put (some d) (Zs a x)) w):wpList P ops Q (o::rest) a w:=by
 unfold Qt0 at h
 split at h
 case h_3=>cases h
 all_goals
  rename_i d' x' hg hd hop
  simp only [Bool.and_eq_true] at h
  obtain rfl:=Nat.eq_of_beq_eq_true h.1
  obtain rfl:=Nat.eq_of_beq_eq_true h.2
  exact QrT hg hd (by simp [execOp,hop];rfl) hr
theorem QBC (h:QAq o d=true) (hr:wpList P ops Q rest (a.put (some d) (.int .i64 0)) w):wpList P ops Q (o::rest) a w:=by
 unfold QAq at h
 split at h
 case h_2=>cases h
 rename_i d' n hg hd hop
 simp only [Bool.and_eq_true,decide_eq_true_eq] at h
 obtain rfl:=Nat.eq_of_beq_eq_true h.1
 obtain rfl:=h.2
 exact QrT hg hd (by simp [execOp,hop];rfl) hr
theorem QBS {tl:TypeId} {ad:Option Addr} {n cap:Nat} (h:QAr P tl o d x=true) (hx:Zs a x=.slice ad n cap) (hr:wpList P ops Q rest (a.put (some d) (.int .i64 n)) w):wpList P ops Q (o::rest) a w:=by
 unfold QAr at h
 split at h
 case h_2=>cases h
 rename_i d' args ats hg hd hop
 split at h
 case h_2=>cases h
 rename_i x' t ea et
 split at h
 case h_2=>simp at h
 rename_i e he
 simp only [Bool.and_eq_true] at h
 obtain rfl:=Nat.eq_of_beq_eq_true h.1.1.1
 obtain rfl:=Nat.eq_of_beq_eq_true h.1.1.2
 have ea':args=#[.tmp x]:=by rw [← Array.toArray_toList (xs:=args),ea]
 have et':ats=#[t]:=by rw [← Array.toArray_toList (xs:=ats),et]
 have hx:a.eval (.tmp x)=.slice ad n cap:=hx
 refine QrT hg hd ?_ hr
 have:=run_len_slice (P:=P) w t o.type ad n cap (by rw [XV he];exact he)
 simp [execOp,hop,ea',et',resolve,invoke,builtin,hx,this]
 rfl
theorem QBl {op:BinOp} {t t':TypeId} {X Y:Operand} (hg:o.guard=none) (hd:o.dst=some d) (hop:o.op=.binOp op t X Y t') {p q:Int} (hx:a.eval X=.int .i64 p) (hy:a.eval Y=.int .i64 q) (hp:inK .i64 p=true) (hq:inK .i64 q=true) {r:V}
  (h:Qeg P op t (.d (.int .i64) p) (.d (.int .i64) q) some=some r) {u':Value} (hu:∀ u,RelV QA5 r u→u=u') (hr:wpList P ops Q rest (a.put (some d) u') w):wpList P ops Q (o::rest) a w:=by
 obtain ⟨u,h1,h2⟩:=Qk5 (P:=P) (w:=w) hop hx hy hp hq h
 obtain rfl:=hu u h1
 exact QrT hg hd h2 hr
theorem QBT {p q:Int} (h:QAs P o d x y=true) (hx:Zs a x=.int .i64 p) (hy:Zs a y=.int .i64 q) (hp:inK .i64 p=true) (hq:inK .i64 q=true) (hr:wpList P ops Q rest (a.put (some d) (.bool (decide (p<q)))) w):wpList P ops Q (o::rest) a w:=by
 unfold QAs at h
 split at h
 case h_2=>cases h
 rename_i d' t x' y' t' hg hd hop
 split at h
 case h_2=>simp at h
 simp only [Bool.and_eq_true] at h
 obtain rfl:=Nat.eq_of_beq_eq_true h.1.1.1
 obtain rfl:=Nat.eq_of_beq_eq_true h.1.1.2
 obtain rfl:=Nat.eq_of_beq_eq_true h.1.2
 exact QBl hg hd hop hx hy hp hq (r:=.d .bool (decide (p<q))) (by simp [Qeg,QzC]) (fun u hu=>hu.bool_inv) hr
theorem QBU {p:Int} (h:QAt P o d x=true) (hx:Zs a x=.int .i64 p) (hp:inK .i64 p=true) (hr:wpList P ops Q rest (a.put (some d) (.int .i64 (IntKind.wrap .i64 (p+1)))) w):wpList P ops Q (o::rest) a w:=by
 unfold QAt at h
 split at h
 case h_2=>cases h
 rename_i d' t x' n t' hg hd hop
 split at h
 case h_2=>simp at h
 simp only [Bool.and_eq_true,decide_eq_true_eq] at h
 obtain rfl:=Nat.eq_of_beq_eq_true h.1.1.1
 obtain rfl:=Nat.eq_of_beq_eq_true h.1.1.2
 obtain rfl:=h.1.2
 exact QBl hg hd hop hx rfl hp (by decide) (r:=.d (.int .i64) (IntKind.wrap .i64 (p+1))) (by simp [Qeg]) (fun u hu=>hu.int_inv.1) hr
end
def Act1.beq:Act1→Act1→Bool | .seti o,.seti o' | .sety o,.sety o' | .setb o,.setb o' | .sets o,.sets o'=>Nat.beq o o' | .inc,.inc=>true | .sub o t,.sub o' t'=>Nat.beq o o'&&Ty.beq t t' | _,_=>false
theorem Act1.beq_eq {a b:Act1} (h:a.beq b=true):a=b:=by
 cases a<;>cases b<;>simp only [Act1.beq] at h<;>first | rfl | cases h | (rw [Nat.eq_of_beq_eq_true h]) | (simp only [Bool.and_eq_true] at h;rw [Nat.eq_of_beq_eq_true h.1,Ty.beq_eq h.2])
def QyE:List Act1→List Act1→Bool | [],[]=>true | a::l,b::l'=>a.beq b&&QyE l l' | _,_=>false
theorem QwQ:∀ {l l':List Act1},QyE l l'=true→l=l'
 | [],[],_=>rfl
 | a::l,b::l',h=>by
  simp only [QyE,Bool.and_eq_true] at h
  rw [Act1.beq_eq h.1,QwQ h.2]
 | [],_::_,h=>by cases h
 | _::_,[],h=>by cases h
def TS.s0:TS:=⟨fun t=>match t with
 | 0=>.arr
 | 1=>.kk 0
 | 5=>.ix
 | _=>.any,0,0⟩
def TS.fine (s:TS):Bool:=(match s.tm 0 with
 | .arr=>true
 | _=>false)&&(match s.tm 1 with
 | .kk j=>Nat.beq j s.ver
 | _=>false)&&(match s.tm 5 with
 | .ix=>true
 | _=>false)
def hotL (P:Program) (gt:Option Nat) (hs:List (Nat × Ty)) (tl:TypeId) (t:Ty) (fn:Func):Code→Bool
 | .seq (.region _ r0 false) (.seq (.seq (.region _ r1 false) (.block b0 (.loop (.seq (.seq (.region _ r2 false) (.cond (.tmp 9) .skip (.exit b0'))) (.seq (.block _ body) (.region _ r3 false)))))) (.seq (.region _ r4 false) .ret)) =>
  Nat.beq b0' b0&&Nat.ble 12 fn.ntmps&&t.mok&&(match fn.results.toList with
   | [.tmp 4]=>true
   | _=>false)&&(match r0.toList with
   | [o]=>QAq o 4
   | _=>false)&&(match r1.toList with
   | [o]=>QAq o 5
   | _=>false)&&(match r2.toList with
   | [o1,o2,o3,o4]=>Qt0 o1 6 5&&Qt0 o2 7 0&&QAr P tl o3 8 7&&QAs P o4 9 6 8
   | _=>false)&&(match r3.toList with
   | [o1,o2,o3]=>Qt0 o1 10 5&&QAt P o2 11 10&&Qt0 o3 5 11
   | _=>false)&&(match r4.toList with
   | [o1,o2]=>(match o1.dst with
    | some d=>Nat.blt d fn.ntmps&&Qt0 o1 d 1&&Qt0 o2 4 d
    | none=>false)
   | _=>false)&&(match UT ⟨P,tl,t.cells,gt,hs⟩ fn.ntmps body TS.s0 with
   | some (s',as)=>s'.fine&&QyE as (QjI t 0)
   | none=>false)
 | _=>false
section
variable {P:Program}
theorem BelowX.refl (bs:List Nat) (w:World):BelowX bs w w:=⟨rfl,rfl,rfl,Nat.le_refl _,fun _ _ _=>rfl,Nat.le_refl _⟩
theorem BelowX.trans {bs:List Nat} {w w' w'':World} (h:BelowX bs w w') (h':BelowX bs w' w''):BelowX bs w w'':=⟨h'.os.trans h.os,h'.tape.trans h.tape,h'.output.trans h.output,Nat.le_trans h.size h'.size,fun c h1 h2=>(h'.block c (Nat.lt_of_lt_of_le h1 h.size) h2).trans (h.block c h1 h2),Nat.le_trans h.drawn h'.drawn⟩
theorem QlU:∀ {bss:List (List Nat)} {i j:Nat} {bi bj:List Nat},bss.flatten.Nodup→i≠j→bss[i]? = some bi→bss[j]? = some bj→∀ c,c∈bi→c∈bj→False
 | [],_,_,_,_,_,_,h,_,_,_,_=>by simp at h
 | x::bss,0,0,_,_,_,hne,_,_,_,_,_=>hne rfl
 | x::bss,0,j+1,bi,bj,h,_,hi,hj,c,h1,h2=>by
  simp only [List.flatten_cons] at h
  obtain ⟨_,_,h3⟩:=List.nodup_append.1 h
  simp only [List.getElem?_cons_zero,Option.some.injEq] at hi
  subst hi
  exact h3 c h1 c (List.mem_flatten.2 ⟨bj,List.mem_of_getElem? (by simpa using hj),h2⟩) rfl
 | x::bss,i+1,0,bi,bj,h,_,hi,hj,c,h1,h2=>by
  simp only [List.flatten_cons] at h
  obtain ⟨_,_,h3⟩:=List.nodup_append.1 h
  simp only [List.getElem?_cons_zero,Option.some.injEq] at hj
  subst hj
  exact h3 c h2 c (List.mem_flatten.2 ⟨bi,List.mem_of_getElem? (by simpa using hi),h1⟩) rfl
 | x::bss,i+1,j+1,bi,bj,h,hne,hi,hj,c,h1,h2=>by
  simp only [List.flatten_cons] at h
  exact QlU (List.nodup_append.1 h).2.1 (fun e:i=j=>hne (by rw [e])) (by simpa using hi) (by simpa using hj) c h1 h2
theorem Qzm {w w':World} {t:Ty} (htk:t.mok=true) {pre rest:List t.den} {x x':t.den} {b o:Nat} {arr:Array Value} {T:TypeId} {bss:List (List Nat)} (hh:w.heap[b]? = some (.cells arr T (0,0))) (hbl:bss.length=(pre++x::rest).length)
  (hfit:o+(pre++x::rest).length*t.cells≤arr.size) (hrow:∀ (i:Nat) (y:t.den) (bi:List Nat),(pre++x::rest)[i]? = some y→bss[i]? = some bi→DeepD w t y ((arr.toList.drop (o+i*t.cells)).take t.cells) bi)
  (hnd:(b::bss.flatten).Nodup) {L:Pl} (hB:L.B=b) (hO:L.O=o+pre.length*t.cells) {us':List Value} {bi:List Nat} (hbi:bss[pre.length]? = some bi)
  (hm:Mem L w arr T (Qm t x') us' bi w'):∃ arr',w'.heap[b]? = some (.cells arr' T (0,0))∧arr'.size=arr.size∧(∀ (i:Nat) (y:t.den) (bj:List Nat),(pre++x'::rest)[i]? = some y→bss[i]? = some bj→DeepD w' t y ((arr'.toList.drop (o+i*t.cells)).take t.cells) bj)∧BelowX (b::bss.flatten) w w':=by
 obtain ⟨⟨arr',m1,m2,m3,m4⟩,m5,m6,m7,m8,m9,m10,m11,m12,⟨m13,m13'⟩,m14,m15⟩:=hm
 subst hB
 have hel:(Qm t x').length=t.cells:=Jx t x'
 rw [hel] at m3 m4 m6
 subst m4
 obtain ⟨hn1,hn2⟩:=List.nodup_cons.1 hnd
 refine ⟨arr',m1,m2,fun i y bj hy hbj=>?_,m9,m10,m11,m12,fun c h1 h2=>m14 c h1 (fun e=>h2 (by rw [e];simp)) (fun hc=>h2 (List.mem_cons_of_mem _ (List.mem_flatten.2 ⟨bi,List.mem_of_getElem? hbi,hc⟩))),m15⟩
 by_cases e:i=pre.length
 ·subst e
  rw [hbi] at hbj
  cases hbj
  have hy:x'=y:=by simpa using hy
  subst hy
  have:=UK (EP htk) (QbS t x' (EP htk)) m5
  rw [hO] at this
  exact this
 ·have hy':(pre++x::rest)[i]? = some y:=by
   rcases Nat.lt_or_ge i pre.length with h | h
   ·rw [List.getElem?_append_left h] at hy ⊢;exact hy
   ·rw [List.getElem?_append_right h] at hy ⊢
    obtain ⟨j,hj⟩:∃ j,i - pre.length=j+1:=⟨i - pre.length - 1,by omega⟩
    rw [hj] at hy ⊢
    simpa using hy
  have hold:=hrow i y bj hy' hbj
  have hcells:(arr'.toList.drop (o+i*t.cells)).take t.cells=(arr.toList.drop (o+i*t.cells)).take t.cells:=by
   apply List.ext_getElem?
   intro j
   simp only [List.getElem?_take,List.getElem?_drop]
   split
   ·rename_i hj
    have:=m3 (o+i*t.cells+j) (by
     rw [hO]
     rcases Nat.lt_or_ge i pre.length with h | h
     ·left
      have:i*t.cells+t.cells≤pre.length*t.cells:=by rw [← Nat.succ_mul];exact Nat.mul_le_mul_right _ h
      omega
     ·right
      have:pre.length*t.cells+t.cells≤i*t.cells:=by rw [← Nat.succ_mul];exact Nat.mul_le_mul_right _ (by omega)
      omega)
    simpa using this
   ·rfl
  rw [hcells]
  refine hold.stays fun c hc=>m14 c (hold.lt c hc) (fun e=>?_) fun hc'=>?_
  ·subst e
   exact hn1 (List.mem_flatten.2 ⟨bj,List.mem_of_getElem? hbj,hc⟩)
  ·exact QlU hn2 e hbj hbi c hc hc'
theorem Qip {P:Program} {fn:Func} {n:Nat} (h:fn.results.toList=[.tmp n]) (a:Act) (w:World):(results fn a.tmps).run P w=.ok (Zs a n) w:=by
 have:=QcK (P:=P) (fn:=fn) (us:=[Zs a n]) (tmps:=a.tmps) (w:=w) (by rw [h];rfl)
 rw [this];rfl
theorem QxS {α:Type} (f:α→Int→Int × α) (x:α) (xs:List α) (k:Int):QaG f (x::xs) k=((QaG f xs (f x k).1).1,(f x k).2::(QaG f xs (f x k).1).2):=rfl
theorem UB {P:Program} {g:Nat} {gt:Option Nat} {hs:List (Nat × Ty)} {tl:TypeId} {t:Ty} {fn:Func} {c:Code} (hf:P.funcs[g]? = some fn) (hb:fn.body=some c) (he:JG P g=true) (htext:∀ g,Qzl gt g=true→QjJ P g) (hhot:∀ g t,QhV g t hs=true→Wp P g t)
  (hchk:hotL P gt hs tl t fn c=true):Wp P g (.list t):=by
 unfold hotL at hchk
 split at hchk
 case h_2=>cases hchk
 rename_i i0 r0 i1 r1 b0 i2 r2 b0' b1 body i3 r3 i4 r4
 simp only [Bool.and_eq_true] at hchk
 obtain ⟨⟨⟨⟨⟨⟨⟨⟨⟨hb0,hnt⟩,htk⟩,hres⟩,hr0⟩,hr1⟩,hr2⟩,hr3⟩,hr4⟩,hbody⟩:=hchk
 have hb0:=Nat.eq_of_beq_eq_true hb0
 subst hb0
 have hnt:=Nat.le_of_ble_eq_true hnt
 split at hres
 case h_2=>cases hres
 rename_i hres'
 split at hr0
 case h_2=>cases hr0
 rename_i o0 e0
 split at hr1
 case h_2=>cases hr1
 rename_i o1 e1
 split at hr2
 case h_2=>cases hr2
 rename_i p1 p2 p3 p4 e2
 simp only [Bool.and_eq_true] at hr2
 obtain ⟨⟨⟨hp1,hp2⟩,hp3⟩,hp4⟩:=hr2
 split at hr3
 case h_2=>cases hr3
 rename_i q1 q2 q3 e3
 simp only [Bool.and_eq_true] at hr3
 obtain ⟨⟨hq1,hq2⟩,hq3⟩:=hr3
 split at hr4
 case h_2=>cases hr4
 rename_i z1 z2 e4
 split at hr4
 case h_2=>cases hr4
 rename_i dz ez
 simp only [Bool.and_eq_true] at hr4
 obtain ⟨⟨hdz,hz1⟩,hz2⟩:=hr4
 have hdz:dz<fn.ntmps:=Nat.le_of_ble_eq_true hdz
 split at hbody
 case h_2=>cases hbody
 rename_i s' as ecode
 simp only [Bool.and_eq_true] at hbody
 obtain ⟨hfine,hacts⟩:=hbody
 have hacts:=QwQ hacts
 subst hacts
 refine ⟨he,fun w u bs xs k hD hnd h0 h1=>?_⟩
 have hD:DeepD w (.list t) xs [u] bs:=hD
 have hxs:(show List t.den from xs)=xs:=rfl
 obtain ⟨ad,cap,hu,c1,c2,c3,c4⟩:=id hD
 simp only [List.cons.injEq,and_true] at hu
 have hlen:List.length (α:=t.den) xs≤9223372036854775807:=Nat.le_trans c1 (Nat.le_trans c2 (by decide))
 generalize hn:List.length (α:=t.den) xs=n at *
 refine calls_of_wp hf hb ?_
 let I:Act→World→Prop:=fun a w'=>∃ (pre rest:List t.den) (k':Int),pre.length+rest.length=n∧((QaG (XE t) rest k').1,pre++(QaG (XE t) rest k').2)=QaG (XE t) (show List t.den from xs) k∧0≤k'∧k'+((rest.map (Wo t)).sum:Nat)≤ZT ∧
  a.tmps.size=fn.ntmps∧a.defers=[]∧Zs a 0=u∧Zs a 1=.int .i64 k'∧Zs a 5=.int .i64 pre.length∧DeepD w' (.list t) (pre++rest) [u] bs∧BelowX bs w w'
 let a0:Act:={ tmps:=#[u,.int .i64 k]++Array.replicate (fn.ntmps - (#[u,Value.int .i64 k]:Array Value).size) undef,defers:=[] }
 have a0s:a0.tmps.size=fn.ntmps:=by simp [a0];omega
 refine wp_seq (wp_region_list ?_)
 rw [e0]
 refine QBC hr0 ?_
 show Code.wp _ _ _ _ _
 refine wp_seq (wp_seq (wp_region_list ?_))
 rw [e1]
 refine QBC hr1 ?_
 show Code.wp _ _ _ _ _
 refine wp_block ?_
 refine wp_loop I (fun a _=>match Zs a 5 with
  | .int _ i=>n - i.toNat
  | _=>0) ?_ ?_
 ·have g0:4<a0.tmps.size:=by omega
  have g1:5<(a0.put (some 4) (.int .i64 0)).tmps.size:=by rw [Hh];omega
  have t0:Zs a0 0=u:=by simp only [Zs,a0,Array.getD_eq_getD_getElem?];rw [Array.getElem?_append_left (by simp)];rfl
  have t1:Zs a0 1=.int .i64 k:=by simp only [Zs,a0,Array.getD_eq_getD_getElem?];rw [Array.getElem?_append_left (by simp)];rfl
  refine ⟨[],xs,k,by simpa using hn,rfl,h0,h1,by rw [Hh,Hh];exact a0s,rfl,?_,?_,?_,hD,.refl _ _⟩
  ·rw [UU g1,UU g0];exact t0
  ·rw [UU g1,UU g0];exact t1
  ·rw [UU g1];rfl
 ·rintro a w1 ⟨pre,rest,k',hln,hfold,hk0,hk1,hsz,hdef,ht0,ht1,ht5,hDD,hbel⟩
  have hik:inK .i64 (pre.length:Int)=true:=VZ.2 (by rw [WS,Ui];omega)
  have hnk:inK .i64 (n:Int)=true:=VZ.2 (by rw [WS,Ui];omega)
  refine wp_seq (wp_seq (wp_region_list ?_))
  rw [e2]
  let a1:=a.put (some 6) (Zs a 5)
  let a2:=a1.put (some 7) (Zs a1 0)
  let a3:=a2.put (some 8) (.int .i64 n)
  let a4:=a3.put (some 9) (.bool (decide ((pre.length:Int)<n)))
  have s1:a1.tmps.size=fn.ntmps:=by simp only [a1,Hh];exact hsz
  have s2:a2.tmps.size=fn.ntmps:=by simp only [a2,Hh];exact s1
  have s3:a3.tmps.size=fn.ntmps:=by simp only [a3,Hh];exact s2
  have s4:a4.tmps.size=fn.ntmps:=by simp only [a4,Hh];exact s3
  have v1:∀ t,Zs a1 t=if t=6 then Zs a 5 else Zs a t:=UU (by omega) _
  have v2:∀ t,Zs a2 t=if t=7 then Zs a1 0 else Zs a1 t:=UU (by omega) _
  have v3:∀ t,Zs a3 t=if t=8 then .int .i64 n else Zs a2 t:=UU (by omega) _
  have v4:∀ t,Zs a4 t=if t=9 then .bool (decide ((pre.length:Int)<n)) else Zs a3 t:=UU (by omega) _
  refine QwP hp1 (QwP hp2 (QBS hp3 (ad:=ad) (n:=n) (cap:=cap) ?_ (QBT hp4 (p:=pre.length) (q:=n) ?_ ?_ hik hnk ?_)))
  ·show Zs a2 7=_
   rw [v2,if_pos rfl,v1,if_neg (by decide),ht0,hu]
  ·show Zs a3 6=_
   rw [v3,if_neg (by decide),v2,if_neg (by decide),v1,if_pos rfl,ht5]
  ·show Zs a3 8=_
   rw [v3,if_pos rfl]
  show Code.wp _ _ _ a4 w1
  have w0:Zs a4 0=u:=by rw [v4,if_neg (by decide),v3,if_neg (by decide),v2,if_neg (by decide),v1,if_neg (by decide),ht0]
  have w1':Zs a4 1=.int .i64 k':=by rw [v4,if_neg (by decide),v3,if_neg (by decide),v2,if_neg (by decide),v1,if_neg (by decide),ht1]
  have w5:Zs a4 5=.int .i64 pre.length:=by rw [v4,if_neg (by decide),v3,if_neg (by decide),v2,if_neg (by decide),v1,if_neg (by decide),ht5]
  have w9:Zs a4 9=.bool (decide ((pre.length:Int)<n)):=by rw [v4,if_pos rfl]
  have d4:a4.defers=[]:=hdef
  clear_value a4
  refine wp_cond (t:=decide ((pre.length:Int)<n)) w9 ?_
  cases rest with
  | nil =>
   have hn':pre.length=n:=by simpa using hln
   rw [hn'] at w9 ⊢
   simp only [Int.lt_irrefl,decide_false,Bool.false_eq_true,if_false]
   refine wp_exit ?_
   show Exit.inBlock b0' _ (.exit b0') a4 w1
   simp only [Exit.inBlock,if_true]
   show Code.wp _ _ _ a4 w1
   refine wp_seq (wp_region_list ?_)
   rw [e4]
   refine QwP hz1 (QwP hz2 ?_)
   show Code.wp _ _ _ _ _
   refine wp_ret ?_
   simp only [QaG,List.append_nil] at hfold
   refine ⟨d4,_,Qip hres' _ _,?_⟩
   have z1s:(a4.put (some dz) (Zs a4 1)).tmps.size=fn.ntmps:=by rw [Hh];exact s4
   have hv:Zs ((a4.put (some dz) (Zs a4 1)).put (some 4) (Zs (a4.put (some dz) (Zs a4 1)) dz)) 4=.int .i64 k':=by
    rw [UU (by rw [z1s];omega),if_pos rfl,UU (by rw [s4];omega),if_pos rfl,w1']
   have hfin:Gl (.list t) xs k=(k',pre):=hfold.symm
   rw [hfin]
   have hDD':QgD w1 (.list t) pre u bs:=by
    rw [List.append_nil] at hDD
    exact hDD
   exact ⟨by rw [← hv],hDD',hbel⟩
  | cons x rest =>
   have hlt:(pre.length:Int)<n:=by simp at hln;omega
   simp only [hlt,decide_true,if_true]
   refine wp_skip ?_
   show Code.wp _ _ _ a4 w1
   refine wp_seq (wp_block ?_)
   obtain ⟨ad',cap',hu',c1',c2',c3',c4'⟩:=id hDD
   simp only [List.cons.injEq,and_true] at hu'
   rcases c4' with ⟨c5,_⟩ | ⟨b,o,arr,T,bss,rfl,hh,hbs,hbl,hfit0,hrow⟩
   ·have c1'':(pre++x::rest).length≤cap':=c1'
    simp at c1''
    omega
   have hln':(pre++x::rest).length=n:=by simpa using hln
   have hln'':List.length (α:=t.den) (pre++x::rest)=n:=hln'
   rw [hln''] at hu' hbl
   have hfit:o+n*t.cells≤arr.size:=by
    rw [hln''] at c1'
    exact Nat.le_trans (Nat.add_le_add_left (Nat.mul_le_mul_right _ c1') _) hfit0
   obtain ⟨bi,hbi⟩:∃ bi,bss[pre.length]? = some bi:=⟨_,List.getElem?_eq_getElem (by omega)⟩
   subst hbs
   obtain ⟨hn1,hn2⟩:=List.nodup_cons.1 hnd
   have hfit1:pre.length*t.cells+t.cells≤n*t.cells:=by rw [← Nat.succ_mul];exact Nat.mul_le_mul_right _ (by omega)
   have hx:=hrow pre.length x bi (by simp) hbi
   have hxl:((arr.toList.drop (o+pre.length*t.cells)).take t.cells).length=t.cells:=by simp;omega
   let L:Pl:=⟨u,n,pre.length,b,o+pre.length*t.cells⟩
   have hE:EnvOk ⟨P,tl,t.cells,gt,hs⟩ P L:=⟨rfl,htext,hhot,⟨o,cap',by show u=_;rw [hu'];rfl,by simp [L]⟩,by simp only [L];omega⟩
   have hsim:SimV L fn.ntmps TS.s0 k' ((arr.toList.drop (o+pre.length*t.cells)).take t.cells) a4:=by
    refine ⟨⟨fun t=>?_,s4,d4⟩,fun t=>?_⟩
    ·show QgO _ _ _ _ (TS.s0.tm t) (Zs a4 t)
     unfold TS.s0
     simp only
     split
     ·exact w0
     ·exact fun _=>w1'
     ·exact w5
     ·trivial
    ·unfold TS.s0
     simp only
     split<;>first | trivial | exact Nat.le_refl _
   have hmem:Mem L w1 arr T (Qm t x) ((arr.toList.drop (o+pre.length*t.cells)).take t.cells) bi w1:=by
    have hel:=Jx t x
    refine ⟨⟨arr,hh,rfl,fun _ _=>rfl,by rw [hel]⟩,Um hx,by rw [hel];show o+pre.length*t.cells+t.cells≤_;omega,fun hm=>hn1 (List.mem_flatten.2 ⟨bi,List.mem_of_getElem? hbi,hm⟩),QmC hn2 (List.mem_of_getElem? hbi),rfl,rfl,rfl,Nat.le_refl _,⟨?_,fun c hc=>hx.lt c hc⟩,fun _ _ _ _=>rfl,Nat.le_refl _⟩
    exact (List.getElem?_eq_some_iff.1 (by simpa using hh)).1
   have hk2:k'+Wo t x≤ZT:=by simp only [List.map_cons,List.sum_cons] at hk1;omega
   have hrun:=QpE t htk x [] [] k' [] hk0 hk2
   simp only [List.nil_append,List.append_nil,List.length_nil,Y2] at hrun
   refine QdW hE body hsim hmem (Jx t x) hk0 (by omega) ecode hrun fun a5 w5'=>?_
   rintro ⟨us',_,⟨⟨u1,u2,u3⟩,u4⟩,hm',_,hk0',hk1'⟩
   obtain ⟨arr',m1,m2,m3,m4⟩:=Qzm htk hh (by rw [hln'];exact hbl) (by rw [hln'];exact hfit) hrow hnd rfl rfl hbi hm'
   show Code.wp _ _ _ a5 w5'
   unfold TS.fine at hfine
   simp only [Bool.and_eq_true] at hfine
   obtain ⟨⟨f0,f1⟩,f5⟩:=hfine
   have x0:Zs a5 0=u:=by
    have:=u1 0
    split at f0
    ·rename_i e;rw [e] at this;exact this
    ·cases f0
   have x1:Zs a5 1=.int .i64 (XE t x k').1:=by
    have:=u1 1
    split at f1
    ·rename_i j e;rw [e] at this;exact this (Nat.eq_of_beq_eq_true f1)
    ·cases f1
   have x5:Zs a5 5=.int .i64 pre.length:=by
    have:=u1 5
    split at f5
    ·rename_i e;rw [e] at this;exact this
    ·cases f5
   refine wp_region_list ?_
   rw [e3]
   let a6:=a5.put (some 10) (Zs a5 5)
   let a7:=a6.put (some 11) (.int .i64 (IntKind.wrap .i64 ((pre.length:Int)+1)))
   let a8:=a7.put (some 5) (Zs a7 11)
   have s6:a6.tmps.size=fn.ntmps:=by simp only [a6,Hh];exact u2
   have s7:a7.tmps.size=fn.ntmps:=by simp only [a7,Hh];exact s6
   have s8:a8.tmps.size=fn.ntmps:=by simp only [a8,Hh];exact s7
   have v6:∀ t,Zs a6 t=if t=10 then Zs a5 5 else Zs a5 t:=UU (by omega) _
   have v7:∀ t,Zs a7 t=if t=11 then .int .i64 (IntKind.wrap .i64 ((pre.length:Int)+1)) else Zs a6 t:=UU (by omega) _
   have v8:∀ t,Zs a8 t=if t=5 then Zs a7 11 else Zs a7 t:=UU (by omega) _
   refine QwP hq1 (QBU hq2 (p:=pre.length) ?_ hik (QwP hq3 ?_))
   ·show Zs a6 10=_
    rw [v6,if_pos rfl,x5]
   show Exit.then _ _ .normal a8 w5'
   have y5:Zs a8 5=.int .i64 ((pre.length:Int)+1):=by
    rw [v8,if_pos rfl,v7,if_pos rfl,Qr8 (VZ.2 (by rw [WS,Ui];omega))]
   refine ⟨⟨pre++[(XE t x k').2],rest,(XE t x k').1,by simp at hln ⊢;omega,?_,hk0',?_,s8,u3,?_,?_,?_,?_,hbel.trans m4⟩,?_⟩
   ·rw [← hfold,QxS];simp
   ·rw [QbR];simp only [List.map_cons,List.sum_cons] at hk1;omega
   ·rw [v8,if_neg (by decide),v7,if_neg (by decide),v6,if_neg (by decide),x0]
   ·rw [v8,if_neg (by decide),v7,if_neg (by decide),v6,if_neg (by decide),x1]
   ·rw [y5];simp
   ·have hl3:List.length (α:=t.den) ((pre++[(XE t x k').2])++rest)=n:=by simp at hln ⊢;omega
    have el:(pre++[(XE t x k').2])++rest=pre++(XE t x k').2::rest:=by simp
    refine ⟨some ⟨b,o,none⟩,cap',by rw [hl3,hu'],by rw [hl3];rw [hln''] at c1';exact c1',c2',(fun e=>by cases e),.inr ⟨b,o,arr',T,bss,rfl,m1,rfl,by rw [hl3];exact hbl,by rw [m2];exact hfit0,?_⟩⟩
    rw [el]
    exact m3
   ·rw [y5,ht5]
    simp only
    omega
end
end Go.Ab
