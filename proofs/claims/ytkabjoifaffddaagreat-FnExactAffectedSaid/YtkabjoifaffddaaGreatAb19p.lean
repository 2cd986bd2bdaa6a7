import Derived.Test.YtkabjoifaffddaaGreatAb16d
import Derived.Test.YtkabjoifaffddaaGreatAb19
namespace Go.Ab
noncomputable section
section
variable {P:Program}
def St.emptyW (gl:Nat→Option (List V)):St:={ St.empty with gl:=gl,nt:=1,lv:=Qu5 (fun _=>false) 0 true }
def QA7 (P:Program) (gl:Nat→Option (List V)) (A:List (List Nat × Ann)) (I:List (List Nat × Nat)) {R:Type} (con:Nat→List V→(V→Option R)→Option R) (fn:Func) (c:Code) (fin:Qaz R) (n:Nat) (args:List V):Option R:=bif Nat.ble args.length fn.ntmps then XC (QiV P (Qq7 P gl A I con fn c fin n) A I con G3) 0 fn.ntmps [] c fin (XU (St.emptyW gl) 0 args) else none
theorem QxX {gl:Nat→Option (List V)} {F:Snap} {w:World} (hgl:GlobOk gl F) (hF:∀ a u,F a=some u→Sees w a u) {fn:Func} {args:List V} {vals:List Value} (hlen:args.length=vals.length)
  {o:Option Reg} (hr:∀ (i:Nat) c u,args[i]? = some c→vals[i]? = some u→RelV ⟨F,fun _ _=>none,fun k=>if k=0 then some o else none,1,.no⟩ c u) (hle:V.le.leL 0 args=true) (hn:args.length≤fn.ntmps)
  (ho:∀ reg,o=some reg→reg.n≤reg.cap∧reg.cap≤maxLen∧∃ cur e,w.heap[reg.g]? = some (.cells cur e (0,0))∧cur.size=reg.cap*reg.sz∧∀ a,a.block=reg.g→reg.n*reg.sz≤a.off→F a=none) :
  RelA P (QiW w o) ⟨w,F,gl,hgl⟩ 0 fn.ntmps (XU (St.emptyW gl) 0 args) (fun _ _=>undef) ⟨F,fun _ _=>none,fun k=>if k=0 then some o else none,1,.no⟩ (QcJ fn vals.toArray) w:=by
 have hτ:∀ k o',(if k=0 then some o else none:Option (Option Reg))=some o'→k=0∧o=o':=by
  intro k o' h
  by_cases hk:k=0
  ·rw [if_pos hk] at h;exact ⟨hk,Option.some.inj h⟩
  ·rw [if_neg hk] at h;cases h
 refine ⟨⟨hF,?_,?_,?_,fun _ _ _=>rfl,fun _ _ _ _ _ _ _ h=>(by cases h),fun _ _ _ _ _ h=>(by cases h),?_,?_,?_,fun _ _ _ _ _ _ _ h=>(by cases h),rfl,?_,Nat.le_refl _,.refl _ _,.refl _,fun _ _ h=>.inl h,rfl,fun _ _ h=>(by cases h),.no rfl⟩,?_,rfl⟩
 ·intro d t hd
  have e:d=0:=by omega
  subst e
  simp only [XU,thA]
  simp only [if_true];rw [E0,if_pos (Nat.zero_le _),UL,if_pos rfl,QmJ]
  simp only [Nat.sub_zero]
  cases hc:args[t]? with
  | none=>exact .any _
  | some c =>
   have hlt:t<vals.length:=by rw [← hlen];exact (List.getElem?_eq_some_iff.1 hc).1
   have hu:vals[t]? = some vals[t]:=List.getElem?_eq_getElem hlt
   have:vals.toArray.getD t undef=vals[t]:=by simp [Array.getD_eq_getD_getElem?,hu]
   rw [this]
   exact hr t c _ hc hu
 ·intro d t hd
  have e:d=0:=by omega
  subst e
  simp only [XU]
  rw [E0,if_pos (Nat.zero_le _),UL,if_pos rfl]
  simp only [Nat.sub_zero]
  cases hc:args[t]? with
  | none=>rfl
  | some c=>exact VT hle hc
 ·intro d s hd
  have e:d=0:=by omega
  subst e
  simp only [XU]
  rw [Qk2,if_pos rfl]
  trivial
 ·intro k o' h
  obtain ⟨rfl,rfl⟩:=hτ k o' h
  refine ⟨Nat.one_pos,rfl,fun reg hreg=>?_⟩
  obtain ⟨h1,h2,h3⟩:=ho reg hreg
  refine ⟨?_,h1,h2,h3⟩
  subst hreg
  exact .inr (List.mem_singleton.2 rfl)
 ·intro k hk
  refine ⟨o,?_⟩
  have:k=0:=by
   cases k with
   | zero=>rfl
   | succ k=>exact absurd hk (by simp [XU,St.emptyW,Qu5])
  subst this
  rfl
 ·intro k k' reg reg' h1 h2 _
  rw [(hτ k _ h1).1,(hτ k' _ h2).1]
 ·intro k hk
  cases k with
  | zero=>exact absurd hk (by simp [XU,St.emptyW])
  | succ k=>rfl
 ·simp only [QcJ,Array.size_append,List.size_toArray,Array.size_replicate]
  omega
theorem QxY {g:Nat} {fn:Func} {c:Code} (hf:P.funcs[g]? = some fn) (hb:fn.body=some c) {A:List (List Nat × Ann)} {I:List (List Nat × Nat)} {t:Ty} {gl:Nat→Option (List V)} {con:Nat→List V→(V→Option (List t.den))→Option (List t.den)} (hcon:QlR P gl con)
  {n:Nat} {args:List V} {xs:List t.den} (hrun:QA7 P gl A I con fn c (QhG P fn t) n args=some xs) {F:Snap} {w:World} {vals:List Value} (hgl:GlobOk gl F) (hF:∀ a u,F a=some u→Sees w a u)
  (hlen:args.length=vals.length) {o:Option Reg} (hr:∀ (i:Nat) c u,args[i]? = some c→vals[i]? = some u→RelV ⟨F,fun _ _=>none,fun k=>if k=0 then some o else none,1,.no⟩ c u) (hle:V.le.leL 0 args=true)
  (ho:∀ reg,o=some reg→reg.n≤reg.cap∧reg.cap≤maxLen∧∃ cur e,w.heap[reg.g]? = some (.cells cur e (0,0))∧cur.size=reg.cap*reg.sz∧∀ a,a.block=reg.g→reg.n*reg.sz≤a.off→F a=none) :
  Calls P g vals.toArray w fun e w'=>∃ u' F' o',e=.returned u'∧F.le F'∧(∀ a v,F' a=some v→Sees w' a v∧(F a=some v∨Own (QiW w o) a.block))∧BelowB (QiW w o) w w'∧RelD F' (.list t) xs [u']∧Eg o' u' xs.length t.cells ∧
   ∀ reg,o'=some reg→Own (QiW w o) reg.g∧reg.n≤reg.cap∧reg.cap≤maxLen∧∃ cur e',w'.heap[reg.g]? = some (.cells cur e' (0,0))∧cur.size=reg.cap*reg.sz∧∀ ad,ad.block=reg.g→reg.n*reg.sz≤ad.off→F' ad=none:=by
 unfold QA7 at hrun
 obtain ⟨h0,hrun⟩:=Qn hrun
 have hn:=Nat.le_of_ble_eq_true h0
 have hra:=QxX (P:=P) (fn:=fn) hgl hF hlen hr hle hn ho
 have hH:=fun k=>QrR (P:=P) (gl:=gl) (A:=A) (I:=I) (con:=con) (fn:=fn) (c:=c) (fin:=QhG P fn t) hcon k
 have hw:=GR (hH G3) (Qeb hH G3) c (fun _=>QhG P fn t) xs (fun m x hx=>hx) n _ _ _ w hrun hra
 refine calls_of_wp hf hb (wp_mono hw ?_)
 have fin:∀ a w',Fam P (QiW w o) ⟨w,F,gl,hgl⟩ 0 fn.ntmps (fun _ _=>undef) n (fun _=>QhG P fn t .ret) xs a w'→a.defers=[]∧∃ v,(results fn a.tmps).run P w'=.ok v w'∧∃ u' F' o',Ending.returned v=.returned u'∧F.le F'∧(∀ a v,F' a=some v→Sees w' a v∧(F a=some v∨Own (QiW w o) a.block))∧BelowB (QiW w o) w w'∧RelD F' (.list t) xs [u']∧Eg o' u' xs.length t.cells ∧
   ∀ reg,o'=some reg→Own (QiW w o) reg.g∧reg.n≤reg.cap∧reg.cap≤maxLen∧∃ cur e',w'.heap[reg.g]? = some (.cells cur e' (0,0))∧cur.size=reg.cap*reg.sz∧∀ ad,ad.block=reg.g→reg.n*reg.sz≤ad.off→F' ad=none:=by
  rintro a w' ⟨m',hm',st',M',h,hk⟩
  refine ⟨h.defers,?_⟩
  obtain ⟨v,u,hu,ho,hv⟩:=QwF h hk
  obtain ⟨F',o',k1,k2,k3,k4,k5⟩:=QsM h.rel ho hv
  refine ⟨u,hu,u,F',o',rfl,h.rel.F0.trans k1,?_,h.rel.below,k3,k4,k5⟩
  intro ad x hx
  rcases k2 ad x hx with h1 | h1
  ·exact ⟨h.rel.F ad x h1,h.rel.Fnew ad x h1⟩
  ·exact ⟨h1.1,.inr h1.2⟩
 intro e a w' hp
 cases e with
 | normal=>exact fin a w' hp
 | ret=>exact fin a w' hp
 | exit i =>
  obtain ⟨m',_,st',M',_,hk⟩:=hp
  simp only [QhG] at hk
  cases hk
 | goto l=>exact hp.elim
 | panic c=>exact hp.elim
 | outgrown=>exact hp.elim
end
end
end Go.Ab
namespace Go.Ab
def QmN (g i:Nat) (tys:List Ty) (t:Ty) (f:HJ tys→Option (List t.den)):Ctr:=⟨Q1+g*64+i,tys,[.list t],f⟩
def QvR (i:Nat) (args:List V):List V:=match args[i]? with
 | some (.d (.list t) xs)=>args.set i (.own 0 t xs)
 | _=>args
theorem Qs0:∀ {tys:List Ty} (xs:HJ tys) {i:Nat} {t:Ty},tys[i]? = some (.list t)→∃ x:List t.den,(Jh tys xs)[i]? = some (.d (.list t) x)
 | [],_,i,t,h=>by simp at h
 | t0::ts,xs,0,t,h=>by
  simp only [List.getElem?_cons_zero,Option.some.injEq] at h
  subst h
  exact ⟨xs.1,rfl⟩
 | t0::ts,xs,i+1,t,h=>by
  simp only [List.getElem?_cons_succ] at h
  obtain ⟨x,hx⟩:=Qs0 xs.2 h
  exact ⟨x,by simpa [Jh] using hx⟩
theorem QAx {F:Snap} {t:Ty} {x:List t.den} {u:Value} (h:RelD F (.list t) x [u]) {o:Option Reg} {n sz:Nat} (hg:Eg o u n sz):Eg o u x.length sz:=by
 obtain ⟨a,cap,h1,h2,h3,h4,_⟩:=h
 simp only [List.cons.injEq,and_true] at h1
 cases o with
 | none =>
  obtain ⟨g1,rfl⟩:=hg
  rw [g1] at h1
  injection h1 with h5 h6 h7
  have:=h4 h5.symm
  exact ⟨g1,h6.symm⟩
 | some reg =>
  obtain ⟨k,ad,g1,g2⟩:=hg
  rw [h1] at g1
  cases g1
  exact ⟨k,ad,h1,g2⟩
theorem QwT {P:Program} {gl:Nat→Option (List V)} {g i:Nat} {tys:List Ty} {t:Ty} {f:HJ tys→Option (List t.den)} (hlt:Nat.blt g Q2=true) (hi:Nat.blt i 64=true) (htys:tys[i]? = some (.list t)) {fn:Func} {code:Code} (hf:P.funcs[g]? = some fn) (hb:fn.body=some code) (he:JG P g=true) {A:List (List Nat × Ann)} {I:List (List Nat × Nat)} {cs:List Ctr}
  (hcs:∀ x∈cs,CtrOkG P gl x) (hrun:∀ xs y,f xs=some y→∃ n,QA7 P gl A I (QaD cs) fn code (QhG P fn t) n (QvR i (Jh tys xs))=some y):CtrOkG P gl (QmN g i tys t f):=by
 intro xs y hy
 obtain ⟨n,hn⟩:=hrun xs y hy
 have hi64:=US hi
 have hge:Q1≤(QmN g i tys t f).g:=by show Q1≤Q1+g*64+i;omega
 have e1:((QmN g i tys t f).g - Q1) / 64=g:=by
  show (Q1+g*64+i - Q1) / 64=g
  omega
 have e2:((QmN g i tys t f).g - Q1) % 64=i:=by
  show (Q1+g*64+i - Q1) % 64=i
  omega
 refine ⟨fun h1=>(Nat.lt_irrefl _ (Nat.lt_of_lt_of_le h1 (Nat.le_trans QfJ.1 hge))).elim,fun _ h1=>(Nat.lt_irrefl _ (Nat.lt_of_lt_of_le h1 (Nat.le_trans QfJ.2.1 hge))).elim,fun _ h1=>(Nat.lt_irrefl _ (Nat.lt_of_lt_of_le h1 (Nat.le_trans QfJ.2.2 hge))).elim,fun _ h1=>(Nat.lt_irrefl _ (Nat.lt_of_lt_of_le h1 hge)).elim,fun _ _=>?_,fun h1 _=>(by have h0:=US hlt;have h1:Yc≤Q1+g*64+i:=h1;unfold Q2 at h0;unfold Yc Q1 at h1;omega:False).elim,fun h1=>(by have h0:=US hlt;have h1:Vg≤Q1+g*64+i:=h1;unfold Q2 at h0;unfold Vg Q1 at h1;omega:False).elim⟩
 rw [e1,e2]
 intro t' ys hv
 have hv:V.d (.list t) y=.d (.list t') ys:=hv
 cases hv
 refine ⟨he,fun M w vals u n0 o hG hF hl hr hu hg ho=>?_⟩
 have hl:(Jh tys xs).length=vals.length:=hl
 have hr:∀ (j:Nat) c u,(Jh tys xs)[j]? = some c→vals[j]? = some u→RelV M c u:=hr
 obtain ⟨x,hx⟩:∃ x:List t.den,(Jh tys xs)[i]? = some (.d (.list t) x):=Qs0 xs htys
 have hs:QvR i (Jh tys xs)=(Jh tys xs).set i (.own 0 t x):=by
  unfold QvR
  rw [hx]
 rw [hs] at hn
 have hd:RelD M.F (.list t) x [u]:=by
  cases hr i _ u hx hu with
  | d _ _ _ hd=>exact hd
 refine QxY hf hb (QgL hcs) hn (F:=M.F) (o:=o) hG hF (by rw [List.length_set];exact hl) (fun j c u' hc hu'=>?_) (Ug fun c hc=>?_) ho
 ·rw [List.getElem?_set] at hc
  split at hc
  ·rename_i hj
   subst hj
   split at hc
   ·cases hc
    rw [hu] at hu'
    cases hu'
    exact .own _ _ _ _ hd Nat.one_pos fun reg hreg=>by
     cases (Option.some.inj hreg:o=reg)
     exact QAx hd hg
   ·cases hc
  ·obtain ⟨t1,x1,rfl⟩:=Hg _ _ c (List.mem_of_getElem? hc)
   refine QgM (M:=M) ?_ (hr j _ u' hc hu')
   rfl
 ·rcases List.mem_or_eq_of_mem_set hc with h1 | h1
  ·obtain ⟨k,hk⟩:=List.getElem?_of_mem h1
   exact VT (QgI 0 tys xs) hk
  ·rw [h1];rfl
end Go.Ab
namespace Go.Ab
noncomputable section
theorem Qs1 {M:Me} {w:World}:∀ {cs:List V} {us:List Value} {bs:List Nat},Z1.DeepVL w cs us bs→(∀ c∈cs,∃ (t:Ty) (x:t.den),c=.d t x)→(∀ c∈bs,∀ o u,w.cell? ⟨c,o,none⟩=some u→M.F ⟨c,o,none⟩=some u) →
  cs.length=us.length∧(∀ (i:Nat) c u,cs[i]? = some c→us[i]? = some u→RelV M c u)∧∀ u∈us,u.oneCell'=true
 | [],us,bs,h,_,_=>by
  obtain ⟨rfl,rfl⟩:=h
  exact ⟨rfl,fun i c u hc=>by simp at hc,fun u hu=>by cases hu⟩
 | c::cs,us,bs,⟨u,us',b1,b2,e1,e2,h1,h2⟩,hd,hF=>by
  subst e1;subst e2
  obtain ⟨k1,k2,k3⟩:=Qs1 h2 (fun c hc=>hd c (List.mem_cons_of_mem _ hc)) (fun c hc=>hF c (List.mem_append_right _ hc))
  obtain ⟨t,x,rfl⟩:=hd c List.mem_cons_self
  have h1:DeepD w t x [u] b1:=h1
  refine ⟨by simp [k1],fun i c' u' hc hu=>?_,fun u' hu=>?_⟩
  ·cases i with
   | zero =>
    simp only [List.getElem?_cons_zero,Option.some.injEq] at hc hu
    subst hc;subst hu
    exact .d _ _ _ (h1.data (fun c hc=>hF c (List.mem_append_left _ hc)))
   | succ i=>exact k2 i c' u' (by simpa using hc) (by simpa using hu)
  ·rcases List.mem_cons.1 hu with rfl | hu
   ·exact h1.one _ (by simp)
   ·exact k3 u' hu
theorem Qc7 {M:Me} {w:World} {t:Ty} {x:t.den} {u:Value} {bs:List Nat} (h:Z1 w (JO t x) u bs) (hF:∀ c∈bs,∀ o u,w.cell? ⟨c,o,none⟩=some u→M.F ⟨c,o,none⟩=some u):RelV M (JO t x) u:=by
 have agg:∀ cs,(∀ c∈cs,∃ (t:Ty) (x:t.den),c=.d t x)→Z1 w (.agg cs) u bs→RelV M (.agg cs) u:=by
  intro cs hcs h5
  obtain ⟨arr,hu,h6⟩:=h5
  subst hu
  obtain ⟨k1,k2,k3⟩:=Qs1 (M:=M) h6 hcs hF
  exact .agg _ arr (by rw [k1,Array.length_toList]) (fun i c u hc hu=>k2 i c u hc (by simpa using hu)) (fun u hu=>k3 u (by simpa using hu))
 have one:∀ (t:Ty) (x:t.den),Z1 w (.d t x) u bs→RelV M (.d t x) u:=fun t x h=>.d _ _ _ (DeepD.data (show DeepD w t x [u] bs from h) hF)
 cases t with
 | pair a b=>exact agg _ (HR (.pair a b) x) h
 | unit=>exact agg _ (fun c hc=>by cases hc) h
 | int k=>exact one _ _ h
 | bool=>exact one _ _ h
 | str=>exact one _ _ h
 | list t=>exact one _ _ h
 | map k e=>exact one _ _ h
 | tree a=>exact agg _ (HR (.tree a) x) h
theorem QbT {M:Me} {w:World}:∀ {ts:List Ty} {x:Wf ts} {us:List Value} {bs:List Nat},Z1.DeepVL w (ZR ts x) us bs→(∀ c∈bs,∀ o u,w.cell? ⟨c,o,none⟩=some u→M.F ⟨c,o,none⟩=some u) →
  (ZR ts x).length=us.length∧∀ (i:Nat) c u,(ZR ts x)[i]? = some c→us[i]? = some u→RelV M c u
 | [],x,us,bs,h,_=>by
  obtain ⟨rfl,rfl⟩:=h
  exact ⟨rfl,fun i c u hc=>by simp [ZR] at hc⟩
 | [t],x,us,bs,h,hF=>by
  obtain ⟨u,us',b1,b2,rfl,rfl,h1,h2⟩:=h
  obtain ⟨rfl,rfl⟩:=h2
  refine ⟨rfl,fun i c u' hc hu=>?_⟩
  cases i with
  | zero =>
   simp only [ZR,List.getElem?_cons_zero,Option.some.injEq] at hc hu
   subst hc;subst hu
   exact Qc7 h1 (fun c hc=>hF c (by simpa using hc))
  | succ i=>simp [ZR] at hc
 | t::t2::ts,x,us,bs,h,hF=>by
  obtain ⟨u,us',b1,b2,rfl,rfl,h1,h2⟩:=h
  obtain ⟨k1,k2⟩:=QbT (ts:=t2::ts) h2 (fun c hc=>hF c (List.mem_append_right _ hc))
  refine ⟨by simp only [ZR,List.length_cons,k1],fun i c u' hc hu=>?_⟩
  cases i with
  | zero =>
   simp only [ZR,List.getElem?_cons_zero,Option.some.injEq] at hc hu
   subst hc;subst hu
   exact Qc7 h1 (fun c hc=>hF c (List.mem_append_left _ hc))
  | succ i=>exact k2 i c u' (by simpa [ZR] using hc) (by simpa using hu)
theorem QpF {M:Me} {w:World} {ts:List Ty} {x:Wf ts} {u:Value} {bs:List Nat} (h:Z1 w (EL ts x) u bs) (hF:∀ c∈bs,∀ o u,w.cell? ⟨c,o,none⟩=some u→M.F ⟨c,o,none⟩=some u):RelV M (EL ts x) u:=by
 match ts,x,h with
 | [],x,h =>
  obtain ⟨arr,hu,h6⟩:=h
  subst hu
  obtain ⟨k1,k2⟩:=QbT (M:=M) (ts:=[]) (x:=x) h6 hF
  exact .tup _ arr (by rw [k1,Array.length_toList]) (fun i c u hc hu=>k2 i c u hc (by simpa using hu))
 | [t],x,h=>exact Qc7 h hF
 | t::t2::ts,x,h =>
  obtain ⟨arr,hu,h6⟩:=h
  subst hu
  obtain ⟨k1,k2⟩:=QbT (M:=M) (ts:=t::t2::ts) (x:=x) h6 hF
  exact .tup _ arr (by rw [k1,Array.length_toList]) (fun i c u hc hu=>k2 i c u hc (by simpa using hu))
open Classical in
def QAy (F:Snap) (n:Nat) (w:World):Snap:=fun a=>match F a with
 | some u=>some u
 | none=>if n≤a.block∧a.spot=none then w.cell? a else none
theorem QlV {P:Program} {gl:Nat→Option (List V)} {g:Nat} {tys rets:List Ty} {f:HJ tys→Option (Wf rets)} (hlt:Nat.blt g Q2=true) (h:CtrOkG P gl (Ek g tys rets f)):CtrOkG P gl ⟨g,tys,rets,f⟩:=by
 intro xs y hy
 have hlt:=US hlt
 have hnl:∀ {m:Nat},Q2≤m→m≤g→False:=fun h1 h2=>Nat.lt_irrefl _ (Nat.lt_of_lt_of_le hlt (Nat.le_trans h1 h2))
 have hd:=(h xs y hy).2.2.1 (Nat.le_add_left _ _) (QgG hlt).2
 rw [show (Ek g tys rets f).g - ZH=g from Nat.add_sub_cancel _ _] at hd
 refine ⟨fun _=>?_,fun hge=>(hnl (Nat.le_refl _) hge).elim,fun hge=>(hnl QaE.1 hge).elim,fun hge _=>(hnl QaE.2.1 hge).elim,fun hge _=>(hnl QfJ.1 hge).elim,fun hge _=>(hnl box_le.1 hge).elim,fun hge=>(hnl Qeq.1 hge).elim⟩
 obtain ⟨he,hd⟩:=hd
 refine ⟨he,fun n=>QsR n _ _,fun M w vals hG hF hl hr=>(hd M w vals hG hF hl hr).mono fun e w'=>?_⟩
 rintro ⟨u,bs,rfl,q1,q2,q3,q4⟩
 refine ⟨u,QAy M.F w.heap.size w',rfl,fun a v hv=>by unfold QAy;rw [hv],fun a v hv=>?_,q1,?_⟩
 ·unfold QAy at hv
  split at hv
  ·rename_i x hx;cases hv;exact .inl hx
  ·split at hv
   ·rename_i hc
    refine .inr ⟨?_,hc.1⟩
    exact Sees.of hc.2 hv
   ·cases hv
 ·refine QpF q2 fun c hc o u hu=>?_
  show QAy M.F w.heap.size w' ⟨c,o,none⟩=some u
  unfold QAy
  split
  ·rename_i x hx
   have hs:=(hF _ _ hx).lt
   have:=q4 c hc
   exact absurd hs (by simpa using this)
  ·rw [if_pos ⟨q4 c hc,rfl⟩]
   exact hu
end
end Go.Ab
