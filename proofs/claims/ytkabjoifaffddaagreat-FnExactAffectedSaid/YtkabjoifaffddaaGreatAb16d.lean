import Derived.Test.YtkabjoifaffddaaGreatAb15
namespace Go.Ab
noncomputable section
variable {R:Type}
theorem Rel.congr {P:Program} {base:Base} {w0:Orig} {dp:Nat} {st:St} {θ θ':Nat→Nat→Value} {M:Me} {w:World} (h:Rel P base w0 dp st θ M w) (he:∀ d t,d≤dp→θ d t=θ' d t):Rel P base w0 dp st θ' M w :=
 { h with tm:=fun d t hd=>by rw [← he d t hd];exact h.tm d t hd }
section
variable {P:Program} {base:Base} {w0:Orig}
def Qlg (P:Program) (L:Nat→List Nat→List V→Option R) (A:List (List Nat × Ann)) (I:List (List Nat × Nat)) (con:Nat→List V→(V→Option R)→Option R) (k:Nat) (m:Nat):Ctx R:=QiV P (L m) A I con k
theorem Ej (L:List Nat→List V→Option R) (A:List (List Nat × Ann)) (I:List (List Nat × Nat)) (con:Nat→List V→(V→Option R)→Option R) (k:Nat) :
  (QiV P L A I con k).P=P∧(QiV P L A I con k).A=A∧(QiV P L A I con k).I=I∧(QiV P L A I con k).con=con∧(QiV P L A I con k).L=L:=by
 cases k<;>exact ⟨rfl,rfl,rfl,rfl,rfl⟩
theorem QwE {θ:Nat→Nat→Value} {fn:Func} {dp nn m:Nat} {K:Nat→V→Z9 R} {r:R} {R':Ending→World→Prop}
  (hK:∀ (m':Nat) (st:St) (M:Me) (a:Act) (w:World) (v:V) (u:Value),m'≤m→RelA P base w0 dp nn st θ M a w→QAR P fn dp st=some v→(results fn a.tmps).run P w=.ok u w→K m' v st=some r →
   ((∀ n,n<dp→v.le n=true→RelV (M.leave dp w) v u)∧∀ tys x,tys.length=fn.results.size→Qjo tys v=some x→∀ M':Me,(M.leave dp w).F.le M'.F→RelV M' (EL tys x) u)→R' (.returned u) w) :
  ∀ e a w,Post P base w0 dp nn θ m (fun m=>Qr4 P fn dp (K m)) r e a w→bodyPost P fn R' e a w:=by
 have fin:∀ a w,Fam P base w0 dp nn θ m (fun m=>Qr4 P fn dp (K m) .ret) r a w→a.defers=[]∧∃ v,(results fn a.tmps).run P w=.ok v w∧R' (.returned v) w:=by
  rintro a w ⟨m',hm',st,M,h,hk⟩
  refine ⟨h.defers,?_⟩
  simp only [Qr4] at hk
  split at hk
  case h_2=>cases hk
  rename_i v hv
  obtain ⟨u,hu,hres⟩:=QxL h hv
  exact ⟨u,hu,hK m' st M a w v u hm' h hv hu hk hres⟩
 intro e a w hp
 cases e with
 | normal=>exact fin a w hp
 | ret=>exact fin a w hp
 | exit i =>
  obtain ⟨m',_,st,M,_,hk⟩:=hp
  simp only [Qr4] at hk
  cases hk
 | goto l=>exact hp.elim
 | panic c=>exact hp.elim
 | outgrown=>exact hp.elim
theorem Qeb {L:Nat→List Nat→List V→Option R} {A:List (List Nat × Ann)} {I:List (List Nat × Nat)} {con:Nat→List V→(V→Option R)→Option R} {root:Nat→QbK R} (hH:∀ k,CtxOk P w0.gl (Qlg P L A I con k) root) :
  ∀ k,Quw P base w0 (Qlg P L A I con k) root
 | 0=>by
  intro d path g KV _ m args st r M θ w vals hs
  simp only [Qlg,QiV] at hs
  cases hs
 | k+1=>by
  intro d path g KV hsub m args st r M θ w vals hs h hlen hr hle
  simp only [Qlg,QiV] at hs
  split at hs
  case h_2=>cases hs
  rename_i fn hf
  split at hs
  case h_2=>cases hs
  rename_i c hb
  obtain ⟨h0,hs2⟩:=Qn hs
  clear hs
  simp only [Bool.and_eq_true] at h0
  have hn:=Nat.le_of_ble_eq_true h0.1
  have hent:JG P g=true:=h0.2
  refine ⟨hent,?_⟩
  have hra:=Qza (fn:=fn) h hlen hr hle hn
  have hsub':∀ m x,x∈YD (Qlg P L A I con k m) (d+1) fn.ntmps path c (Qr4 P fn (d+1) (Qpe d (KV m)))→x∈root m:=by
   intro m x hx
   refine hsub m x ?_
   simp only [Qlg,QiV,hf,hb]
   exact hx
  have hw:=GR (hH k) (Qeb hH k) c (fun m=>Qr4 P fn (d+1) (Qpe d (KV m))) r hsub' m _ M _ w hs2 hra
  refine calls_of_wp hf hb (wp_mono hw (QwE (K:=fun m=>Qpe d (KV m)) ?_))
  intro m' st' M' a' w' v u hm' h' hv hu hk hres
  unfold Qpe at hk
  obtain ⟨hvl,hk⟩:=Qn hk
  refine ⟨u,v,m',_,M'.leave (d+1) w',hm',rfl,hk,(Qzc h'.rel).congr ?_,hres.1 d (by omega) hvl,hvl⟩
  intro d' t hd'
  simp only [thA]
  rw [if_neg (by omega)]
theorem QrR {gl:Nat→Option (List V)} {A:List (List Nat × Ann)} {I:List (List Nat × Nat)} {con:Nat→List V→(V→Option R)→Option R} {fn:Func} {c:Code} {fin:Qaz R} (hcon:QlR P gl con) (k:Nat) :
  CtxOk P gl (Qlg P (Qq7 P gl A I con fn c fin) A I con k) (fun m=>YD (QiV P (Qq7 P gl A I con fn c fin m) A I con G3) 0 fn.ntmps [] c fin) where
 P_eq:=fun m=>(Ej _ _ _ _ k).1
 A_eq:=fun m m'=>by unfold Qlg;rw [(Ej _ _ _ _ k).2.1,(Ej _ _ _ _ k).2.1]
 I_eq:=fun m m'=>by unfold Qlg;rw [(Ej _ _ _ _ k).2.2.1,(Ej _ _ _ _ k).2.2.1]
 con:=fun m=>by unfold Qlg;rw [(Ej _ _ _ _ k).2.2.2.1];exact hcon
 L:=by
  intro m q vs r hl
  unfold Qlg at hl ⊢
  rw [(Ej _ _ _ _ k).2.2.2.2] at hl
  rw [(Ej _ _ _ _ k).2.1]
  cases m with
  | zero=>simp only [Qq7] at hl;cases hl
  | succ m =>
   simp only [Qq7] at hl
   split at hl
   case h_2=>cases hl
   rename_i f an hf han
   exact ⟨m,f,an,rfl,hf,han,hl⟩
theorem QpA {gl:Nat→Option (List V)} {F:Snap} {w:World} (hgl:GlobOk gl F) (hF:∀ a u,F a=some u→Sees w a u) {fn:Func} {args:List V} {vals:List Value} (hlen:args.length=vals.length)
  (hr:∀ (i:Nat) c u,args[i]? = some c→vals[i]? = some u→∀ M:Me,M.F=F→RelV M c u) (hle:V.le.leL 0 args=true) (hn:args.length≤fn.ntmps) :
  RelA P ⟨w.heap.size,[]⟩ ⟨w,F,gl,hgl⟩ 0 fn.ntmps (XU { St.empty with gl:=gl } 0 args) (fun _ _=>undef) ⟨F,fun _ _=>none,fun _=>none,0,.no⟩ (QcJ fn vals.toArray) w:=by
 refine ⟨⟨hF,?_,?_,?_,fun _ _ _=>rfl,fun _ _ _ _ _ _ _ h=>(by cases h),fun _ _ _ _ _ h=>(by cases h),fun _ _ h=>(by cases h),fun k h=>(by simp [XU,St.empty] at h),fun _ _ _ _ h=>(by cases h),fun _ _ _ _ _ _ h=>(by cases h),rfl,fun k _=>rfl,Nat.le_refl _,.refl _ _,.refl _,fun _ _ h=>.inl h,rfl,fun _ _ h=>(by cases h),.no rfl⟩,?_,rfl⟩
 ·intro d t hd
  have e:d=0:=by omega
  subst e
  simp only [XU,thA]
  simp only [if_true];rw [E0,if_pos (Nat.zero_le _),UL,if_pos rfl,QmJ]
  simp only [Nat.sub_zero]
  cases hc:args[t]? with
  | none=>exact .any _
  | some c =>
   have hlt:t<vals.length:=by rw [← hlen];exact (List.getElem?_eq_some_iff.1 hc).1
   have hu:vals[t]? = some vals[t]:=List.getElem?_eq_getElem hlt
   have:vals.toArray.getD t undef=vals[t]:=by simp [Array.getD_eq_getD_getElem?,hu]
   rw [this]
   exact hr t c _ hc hu _ rfl
 ·intro d t hd
  have e:d=0:=by omega
  subst e
  simp only [XU]
  rw [E0,if_pos (Nat.zero_le _),UL,if_pos rfl]
  simp only [Nat.sub_zero]
  cases hc:args[t]? with
  | none=>rfl
  | some c=>exact VT hle hc
 ·intro d s hd
  have e:d=0:=by omega
  subst e
  simp only [XU]
  rw [Qk2,if_pos rfl]
  trivial
 ·simp only [QcJ,Array.size_append,List.size_toArray,Array.size_replicate]
  omega
theorem QuA {g:Nat} {fn:Func} {c:Code} (hf:P.funcs[g]? = some fn) (hb:fn.body=some c) {A:List (List Nat × Ann)} {I:List (List Nat × Nat)} {tys:List Ty} {gl:Nat→Option (List V)} {con:Nat→List V→(V→Option (Wf tys))→Option (Wf tys)} (hcon:QlR P gl con)
  (hres:tys.length=fn.results.size) {n:Nat} {args:List V} {y:Wf tys} (hrun:Qpf P gl A I con fn c (QyS P fn (Qjo tys)) n args=some y) {F:Snap} {w:World} {vals:List Value} (hgl:GlobOk gl F) (hF:∀ a u,F a=some u→Sees w a u)
  (hlen:args.length=vals.length) (hr:∀ (i:Nat) c u,args[i]? = some c→vals[i]? = some u→∀ M:Me,M.F=F→RelV M c u) (hle:V.le.leL 0 args=true) :
  Calls P g vals.toArray w fun e w'=>∃ u F',e=.returned u∧F.le F'∧(∀ a u,F' a=some u→F a=some u∨(Sees w' a u∧w.heap.size≤a.block)) ∧
   BelowN w.heap.size w w'∧∀ M:Me,F'.le M.F→RelV M (EL tys y) u:=by
 unfold Qpf QyS at hrun
 obtain ⟨h0,hrun⟩:=Qn hrun
 have hn:=Nat.le_of_ble_eq_true h0
 have hra:=QpA (P:=P) (fn:=fn) hgl hF hlen hr hle hn
 have hH:=fun k=>QrR (P:=P) (gl:=gl) (A:=A) (I:=I) (con:=con) (fn:=fn) (c:=c) (fin:=Qr4 P fn 0 fun v _=>Qjo tys v) hcon k
 have hw:=GR (hH G3) (Qeb hH G3) c (fun _=>Qr4 P fn 0 fun v _=>Qjo tys v) y (fun m x hx=>hx) n _ _ _ w hrun hra
 refine calls_of_wp hf hb (wp_mono hw (QwE (K:=fun _ v _=>Qjo tys v) ?_))
 intro m' st' M' a' w' v u _ h' hv hu hk hres'
 refine ⟨u,(M'.leave 0 w').F,rfl,h'.rel.F0.trans (UM 0),?_,h'.rel.below.toN,fun M hM=>hres'.2 tys y hres hk M hM⟩
 intro ad x hx
 rcases QwD hx with h1 | ⟨_,⟨s,k,h3⟩ | ⟨_,k,reg,h3,h6⟩,h4⟩
 ·rcases h'.rel.Fnew ad x h1 with h5 | h5
  ·exact .inl h5
  ·exact .inr ⟨h'.rel.F ad x h1,h5.nil⟩
 ·have hbx:=h'.rel.bx 0 s (Nat.le_refl _)
  split at hbx
  ·rw [hbx] at h3;cases h3
  ·obtain ⟨b,T,arr,k1,k2,_⟩:=hbx
   rw [h3] at k1;cases k1;exact .inr ⟨h4,k2.nil⟩
  ·obtain ⟨b,T,arr,k1,k2,_⟩:=hbx
   rw [h3] at k1;cases k1;exact .inr ⟨h4,k2.nil⟩
  ·obtain ⟨b,ms,c,k1,k2,_⟩:=hbx
   rw [h3] at k1;cases k1;exact .inr ⟨h4,k2.nil⟩
 ·obtain ⟨_,_,h5⟩:=h'.rel.tok k _ h3
  exact .inr ⟨h4,by rw [← h6];exact (h5 reg rfl).1.nil⟩
theorem QsM {θ:Nat→Nat→Value} {st:St} {M:Me} {w:World} (h:Rel P base w0 0 st θ M w) {t:Ty} {v:V} {u:Value} {xs:List t.den} (hv:QzK t st v=some xs) (hu:RelV M v u) :
  ∃ F' o,M.F.le F'∧(∀ a u,F' a=some u→M.F a=some u∨(Sees w a u∧Own base a.block))∧RelD F' (.list t) xs [u]∧Eg o u xs.length t.cells∧∀ reg,o=some reg→Own base reg.g∧reg.n≤reg.cap∧reg.cap≤maxLen ∧
    ∃ cur e',w.heap[reg.g]? = some (.cells cur e' (0,0))∧cur.size=reg.cap*reg.sz∧∀ ad,ad.block=reg.g→reg.n*reg.sz≤ad.off→F' ad=none:=by
 unfold QzK at hv
 split at hv
 ·cases hv
  cases hu with
  | nils=>exact ⟨M.F,none,.refl _,fun _ _ h=>.inl h,QcE _ _,⟨rfl,rfl⟩,fun _ h=>by cases h⟩
 ·rename_i tok t' ys
  obtain ⟨hl,hv⟩:=Qn hv
  obtain ⟨o,ho⟩:=h.live tok hl
  obtain ⟨e,rfl⟩:=castL?_eq hv
  subst e
  cases hu with
  | own _ _ _ _ hd hN hg =>
   refine ⟨M.F,o,.refl _,fun _ _ h=>.inl h,hd,hg o ho,fun reg hreg=>?_⟩
   obtain ⟨_,_,q⟩:=h.tok tok _ ho
   exact q reg hreg
 ·rename_i tok
  split at hv
  case h_2=>cases hv
  rename_i t' ys hb
  obtain ⟨e,rfl⟩:=castL?_eq hv
  subst e
  obtain ⟨h1,h2,h3⟩:=h.rw tok _ hb
  obtain ⟨o,ho⟩:=h.live tok h1
  have hv:=hu.raw_inv.2 o ho
  cases o with
  | none =>
   obtain rfl:=show u=_ from hv
   obtain rfl:=show ys=[] from h2 ho
   exact ⟨M.F,none,.refl _,fun _ _ h=>.inl h,QcE _ _,⟨rfl,rfl⟩,fun _ h=>by cases h⟩
  | some reg =>
   obtain ⟨k1,k2,k3,cur,e,k4,k5⟩:=h3 reg ho
   obtain ⟨_,_,q⟩:=h.tok tok _ ho
   obtain ⟨q1,q2,q3,cur',e',q4,q5,_⟩:=q reg rfl
   rw [k4] at q4
   cases q4
   simp only at k1 k2 k5
   obtain rfl:=show u=_ from hv
   have hcl:cur.toList.length=cur.size:=Array.length_toList
   have hfit:ys.length*t'.cells≤cur.toList.length:=by rw [hcl,q5,k2];exact Nat.mul_le_mul_right _ (by omega)
   have hrows:=QrN (xs:=ys) (ty:=t') k5 hfit
   have hpl:(cur.toList.take (ys.length*t'.cells)).length=reg.n*reg.sz:=by rw [List.length_take,k1,k2];omega
   have hle:M.F.le (M.F.cells reg.g (cur.toList.take (ys.length*t'.cells))):=by
    intro ad x hx
    unfold Snap.cells
    by_cases hg:ad.block=reg.g
    ·rw [k3 ad hg] at hx;cases hx
    ·rw [if_neg (fun q=>hg q.1)];exact hx
   refine ⟨M.F.cells reg.g (cur.toList.take (ys.length*t'.cells)),some reg,hle,?_,?_,?_,?_⟩
   ·intro ad x hx
    unfold Snap.cells at hx
    split at hx
    ·rename_i hc
     obtain ⟨c1,c2,c3⟩:=hc
     right
     rw [List.getElem?_take,if_pos (by rw [List.length_take] at c3;omega)] at hx
     refine ⟨.of c2 ?_,by rw [c1];exact q1⟩
     obtain ⟨b,of,sp⟩:=ad
     simp only at c1 c2 hx
     subst c1;subst c2
     rw [V6 k4]
     simpa using hx
    ·exact .inl hx
   ·rw [k1]
    exact (hrows.mono hle).slice (o:=0) (fun j x hx=>by rw [Nat.zero_add];exact Qpp hx) (by omega) q3
   ·exact ⟨0,⟨reg.g,0,none⟩,by rw [k1];rfl,fun _=>by rw [Nat.zero_mul],by rw [k1];exact (Nat.zero_add _).symm,Nat.zero_le _,k2⟩
   ·intro r hr
    cases hr
    refine ⟨q1,q2,q3,cur,e,k4,q5,fun ad hb ho=>?_⟩
    unfold Snap.cells
    rw [if_neg (fun q=>by have:=q.2.2;omega)]
    exact k3 ad hb
 ·cases hv
theorem QwF {θ:Nat→Nat→Value} {fn:Func} {nn:Nat} {st:St} {M:Me} {a:Act} {w:World} (h:RelA P base w0 0 nn st θ M a w) {t:Ty} {xs:List t.den} (hk:QhG P fn t .ret st=some xs) :
  ∃ v u,(results fn a.tmps).run P w=.ok u w∧QzK t st v=some xs∧RelV M v u:=by
 have one:∀ (x:ResultVar) (u:Value),fn.results.toList=[x]→(QbQ a.tmps x).run P w=.ok u w→(results fn a.tmps).run P w=.ok u w:=by
  intro x u hx hr
  have hts:(fn.results.toList.mapM (QbQ a.tmps)).run P w=.ok [u] w:=by
   rw [hx,List.mapM_cons]
   simp only [Sem.run_bind,hr,Result.andThen_ok,List.mapM_nil,Sem.run_pure]
  have:=QcK hts
  rw [dif_pos (by simp)] at this
  exact this
 simp only [QhG] at hk
 split at hk
 ·rename_i x hx
  have htm:=h.rel.tm 0 x (Nat.le_refl _)
  simp only [thA,if_true] at htm
  exact ⟨_,_,one _ _ hx rfl,hk,htm⟩
 ·rename_i p ty hx
  have htm:=h.rel.tm 0 p (Nat.le_refl _)
  simp only [thA,if_true] at htm
  obtain ⟨v0,u,h1,h2,h3,_⟩:=QcF hk h.rel htm (h.rel.le 0 p (Nat.le_refl _))
  have hp:∃ ad,a.tmps.getD p undef=.pointer (some ad):=Qpj hk h.rel htm
  obtain ⟨ad,hp⟩:=hp
  have h2:=h2 w (.refl _ _)
  rw [hp] at h2
  refine ⟨v0,u,one _ _ hx ?_,h1,h3⟩
  simp only [QbQ,hp,asAddr,Sem.run_bind,Sem.run_pure,Result.andThen_ok]
  simpa only [Instr.loadAt,Instr.sureAddr,Sem.run_bind,Sem.run_pure,Result.andThen_ok] using h2
 ·cases hk
theorem Qzd {g:Nat} {fn:Func} {c:Code} (hf:P.funcs[g]? = some fn) (hb:fn.body=some c) {A:List (List Nat × Ann)} {I:List (List Nat × Nat)} {t:Ty} {gl:Nat→Option (List V)} {con:Nat→List V→(V→Option (List t.den))→Option (List t.den)} (hcon:QlR P gl con)
  {n:Nat} {args:List V} {xs:List t.den} (hrun:Qpf P gl A I con fn c (QhG P fn t) n args=some xs) {F:Snap} {w:World} {vals:List Value} (hgl:GlobOk gl F) (hF:∀ a u,F a=some u→Sees w a u)
  (hlen:args.length=vals.length) (hr:∀ (i:Nat) c u,args[i]? = some c→vals[i]? = some u→∀ M:Me,M.F=F→RelV M c u) (hle:V.le.leL 0 args=true) :
  Calls P g vals.toArray w fun e w'=>∃ u F' o,e=.returned u∧F.le F'∧(∀ a u,F' a=some u→F a=some u∨(Sees w' a u∧w.heap.size≤a.block)) ∧
   BelowN w.heap.size w w'∧RelD F' (.list t) xs [u]∧Eg o u xs.length t.cells∧∀ reg,o=some reg→w.heap.size≤reg.g∧reg.n≤reg.cap∧reg.cap≤maxLen ∧
    ∃ cur e',w'.heap[reg.g]? = some (.cells cur e' (0,0))∧cur.size=reg.cap*reg.sz∧∀ ad,ad.block=reg.g→reg.n*reg.sz≤ad.off→F' ad=none:=by
 unfold Qpf at hrun
 obtain ⟨h0,hrun⟩:=Qn hrun
 have hn:=Nat.le_of_ble_eq_true h0
 have hra:=QpA (P:=P) (fn:=fn) hgl hF hlen hr hle hn
 have hH:=fun k=>QrR (P:=P) (gl:=gl) (A:=A) (I:=I) (con:=con) (fn:=fn) (c:=c) (fin:=QhG P fn t) hcon k
 have hw:=GR (hH G3) (Qeb hH G3) c (fun _=>QhG P fn t) xs (fun m x hx=>hx) n _ _ _ w hrun hra
 refine calls_of_wp hf hb (wp_mono hw ?_)
 have fin:∀ a w',Fam P ⟨w.heap.size,[]⟩ ⟨w,F,gl,hgl⟩ 0 fn.ntmps (fun _ _=>undef) n (fun _=>QhG P fn t .ret) xs a w'→a.defers=[]∧∃ v,(results fn a.tmps).run P w'=.ok v w'∧∃ u F' o,Ending.returned v=.returned u∧F.le F'∧(∀ a u,F' a=some u→F a=some u∨(Sees w' a u∧w.heap.size≤a.block)) ∧
   BelowN w.heap.size w w'∧RelD F' (.list t) xs [u]∧Eg o u xs.length t.cells∧∀ reg,o=some reg→w.heap.size≤reg.g∧reg.n≤reg.cap∧reg.cap≤maxLen ∧
    ∃ cur e',w'.heap[reg.g]? = some (.cells cur e' (0,0))∧cur.size=reg.cap*reg.sz∧∀ ad,ad.block=reg.g→reg.n*reg.sz≤ad.off→F' ad=none:=by
  rintro a w' ⟨m',hm',st',M',h,hk⟩
  refine ⟨h.defers,?_⟩
  obtain ⟨v,u,hu,ho,hv⟩:=QwF h hk
  obtain ⟨F',o,k1,k2,k3,k4,k5⟩:=QsM h.rel ho hv
  refine ⟨u,hu,u,F',o,rfl,h.rel.F0.trans k1,?_,h.rel.below.toN,k3,k4,fun reg hreg=>⟨(k5 reg hreg).1.nil,(k5 reg hreg).2⟩⟩
  intro ad x hx
  rcases k2 ad x hx with h1 | h1
  ·rcases h.rel.Fnew ad x h1 with h5 | h5
   ·exact .inl h5
   ·exact .inr ⟨h.rel.F ad x h1,h5.nil⟩
  ·exact .inr ⟨h1.1,h1.2.nil⟩
 intro e a w' hp
 cases e with
 | normal=>exact fin a w' hp
 | ret=>exact fin a w' hp
 | exit i =>
  obtain ⟨m',_,st',M',_,hk⟩:=hp
  simp only [QhG] at hk
  cases hk
 | goto l=>exact hp.elim
 | panic c=>exact hp.elim
 | outgrown=>exact hp.elim
end
end
end Go.Ab
namespace Go.Ab
variable {R:Type}
section
variable {P:Program} {base:Base} {w0:Orig} {dp nn:Nat} {st:St} {θ:Nat→Nat→Value} {M:Me} {a:Act} {w w':World}
theorem Qgi (h:RelA P base w0 0 nn st θ M a w):∀ (l:List ResultVar) (vs:List V),QhH P st l=some vs→∃ us:List Value,(l.mapM (QbQ a.tmps)).run P w=.ok us w∧us.length=l.length∧vs.length=us.length ∧
  ∀ (i:Nat) v u,vs[i]? = some v→us[i]? = some u→RelV M v u
 | [],vs,hv=>by
  simp only [QhH,Option.some.injEq] at hv
  subst hv
  exact ⟨[],rfl,rfl,rfl,fun i v t h=>by simp at h⟩
 | .tmp t::l,vs,hv=>by
  simp only [QhH] at hv
  obtain ⟨vs',h2,rfl⟩:=Option.map_eq_some_iff.1 hv
  obtain ⟨us,hruns,hl0,hl,hrs⟩:=Qgi h l vs' h2
  have htm:=h.rel.tm 0 t (Nat.le_refl _)
  simp only [thA,if_true] at htm
  refine ⟨a.tmps.getD t undef::us,?_,by simp [hl0],by simp [hl],fun i v' t' hv' ht'=>?_⟩
  ·rw [List.mapM_cons]
   have:(QbQ a.tmps (.tmp t)).run P w=.ok (a.tmps.getD t undef) w:=rfl
   simp only [Sem.run_bind,this,Result.andThen_ok,hruns,Sem.run_pure]
  cases i with
  | zero=>simp only [List.getElem?_cons_zero,Option.some.injEq] at hv' ht';subst hv';subst ht';exact htm
  | succ i=>simp only [List.getElem?_cons_succ] at hv' ht';exact hrs i v' t' hv' ht'
 | .cell p ty::l,vs,hv=>by
  simp only [QhH] at hv
  have htm:=h.rel.tm 0 p (Nat.le_refl _)
  simp only [thA,if_true] at htm
  obtain ⟨v0,u,h1,h2,h3,_⟩:=QcF hv h.rel htm (h.rel.le 0 p (Nat.le_refl _))
  obtain ⟨ad,hp⟩:=Qpj hv h.rel htm
  obtain ⟨vs',h4,rfl⟩:=Option.map_eq_some_iff.1 h1
  obtain ⟨us,hruns,hl0,hl,hrs⟩:=Qgi h l vs' h4
  have h2:=h2 w (.refl _ _)
  rw [hp] at h2
  refine ⟨u::us,?_,by simp [hl0],by simp [hl],fun i v' t' hv' ht'=>?_⟩
  ·rw [List.mapM_cons]
   have:(QbQ a.tmps (.cell p ty)).run P w=.ok u w:=by
    simp only [QbQ,hp,asAddr,Sem.run_bind,Sem.run_pure,Result.andThen_ok]
    simpa only [Instr.loadAt,Instr.sureAddr,Sem.run_bind,Sem.run_pure,Result.andThen_ok] using h2
   simp only [Sem.run_bind,this,Result.andThen_ok,hruns,Sem.run_pure]
  cases i with
  | zero=>simp only [List.getElem?_cons_zero,Option.some.injEq] at hv' ht';subst hv';subst ht';exact h3
  | succ i=>simp only [List.getElem?_cons_succ] at hv' ht';exact hrs i v' t' hv' ht'
theorem QwG {dr:Nat→Option RBox} (h:DpInv base st.dr st.nd M w) {v:V} {u:Value} (hv:v.dwhole st=true) (hr:RelV M v u):Z1 w (st.res v) u (M.blk v.drs):=by
 cases v with
 | agg cs =>
  obtain ⟨arr,rfl,hl⟩:=hr.aggL
  exact ⟨arr,rfl,QcI h hv hl⟩
 | _=>exact (QhL h (by unfold V.dwhole at hv;exact hv) hr).1
theorem QnS (h:DpInv base st.dr st.nd M w):∀ (vs:List V) (us:List Value),vs.all (V.dwhole st)=true→vs.length=us.length→(∀ (i:Nat) v u,vs[i]? = some v→us[i]? = some u→RelV M v u)→Z1.DeepVL w (St.res.resL st vs) us (M.blk (V.drs.drsL vs))
 | [],us,_,hl,_=>by
  have:us=[]:=List.eq_nil_of_length_eq_zero hl.symm
  subst this
  exact ⟨rfl,rfl⟩
 | v::vs,[],_,hl,_=>by simp at hl
 | v::vs,u::us,hv,hl,hr=>by
  simp only [List.all_cons,Bool.and_eq_true] at hv
  exact ⟨u,us,_,_,rfl,by simp only [V.drs.drsL];exact QmB M _ _,QwG (dr:=st.dr) h hv.1 (hr 0 v u rfl rfl),QnS h vs us hv.2 (by simpa using hl) (fun i c u hc hu=>hr (i+1) c u (by simpa using hc) (by simpa using hu))⟩
theorem QsN:∀ (tys:List Ty) (vs:List V) (y:Wf tys) (us:List Value) (bs:List Nat),Wj tys vs=some y→tys.all Ty.dok=true→Z1.DeepVL w vs us bs→Z1.DeepVL w (ZR tys y) us bs
 | [],[],y,us,bs,_,_,hd=>hd
 | [],_::_,y,us,bs,h,_,_=>by simp [Wj] at h
 | [t],[],y,us,bs,h,_,_=>by simp [Wj] at h
 | [t],[v],y,us,bs,h,ht,hd=>by
  obtain ⟨u,us1,b1,b2,rfl,rfl,h1,h2⟩:=hd
  simp only [List.all_cons,List.all_nil,Bool.and_true] at ht
  exact ⟨u,us1,b1,b2,rfl,rfl,Qjx (QhK ht h h1),h2⟩
 | [t],_::_::_,y,us,bs,h,_,_=>by simp [Wj] at h
 | t::t'::ts,[],y,us,bs,h,_,_=>by simp [Wj] at h
 | t::t'::ts,v::vs,y,us,bs,h,ht,hd=>by
  obtain ⟨u,us1,b1,b2,rfl,rfl,h1,h2⟩:=hd
  rw [List.all_cons,Bool.and_eq_true] at ht
  simp only [Wj] at h
  split at h
  case h_2=>cases h
  rename_i x z hx hz
  cases h
  exact ⟨u,us1,b1,b2,rfl,rfl,Qjx (QhK ht.1 hx h1),QsN (t'::ts) vs z us1 b2 hz ht.2 h2⟩
theorem QAh (h:RelA P base w0 0 nn st θ M a w) {fn:Func} {rets:List Ty} {y:Wf rets} (hk:QtI P fn rets .ret st=some y) :
  ∃ u bs,(results fn a.tmps).run P w=.ok u w∧Z1 w (EL rets y) u bs∧bs.Nodup∧∀ c∈bs,M.mine c:=by
 simp only [QtI] at hk
 split at hk
 case h_2=>cases hk
 rename_i vs hvs
 obtain ⟨h0,hp⟩:=Qn hk
 simp only [Bool.and_eq_true] at h0
 obtain ⟨⟨⟨h1,h2⟩,h3⟩,h4⟩:=h0
 have h4:vs.length=rets.length:=Nat.eq_of_beq_eq_true h4
 obtain ⟨us,k1,k2,k3,k4⟩:=Qgi h _ _ hvs
 have hd:=QsN rets _ y us _ hp h3 (QnS h.rel.dpi vs us h1 k3 k4)
 refine ⟨_,M.blk (V.drs.drsL vs),QcK k1,?_,h.rel.dpi.blk_nodup (EZ.1 h2),fun c hc=>Qjy hc⟩
 have hus:us.length=rets.length:=by omega
 match rets,y,hd,hus with
 | [],y,hd,hus =>
  have:us=[]:=List.eq_nil_of_length_eq_zero hus
  subst this
  exact ⟨#[],rfl,hd⟩
 | [t],y,hd,hus =>
  obtain ⟨u,rfl⟩:∃ u,us=[u]:=List.length_eq_one_iff.1 hus
  obtain ⟨u',us1,b1,b2,e1,e2,q1,q2,q3⟩:=hd
  simp only [List.cons.injEq] at e1
  obtain ⟨rfl,rfl⟩:=e1
  subst q3
  rw [e2,List.append_nil]
  exact q1
 | t::t'::ts,y,hd,hus =>
  rw [dif_neg (by simp at hus ⊢;omega)]
  exact ⟨us.toArray,rfl,hd⟩
theorem QxM {g:Nat} {fn:Func} {c:Code} (hf:P.funcs[g]? = some fn) (hb:fn.body=some c) {A:List (List Nat × Ann)} {I:List (List Nat × Nat)} {rets:List Ty} {gl:Nat→Option (List V)} {con:Nat→List V→(V→Option (Wf rets))→Option (Wf rets)} (hcon:QlR P gl con)
  {n:Nat} {args:List V} {y:Wf rets} (hrun:Qpf P gl A I con fn c (QtI P fn rets) n args=some y) {F:Snap} {w:World} {vals:List Value} (hgl:GlobOk gl F) (hF:∀ a u,F a=some u→Sees w a u)
  (hlen:args.length=vals.length) (hr:∀ (i:Nat) c u,args[i]? = some c→vals[i]? = some u→∀ M:Me,M.F=F→RelV M c u) (hle:V.le.leL 0 args=true) :
  Calls P g vals.toArray w fun e w'=>∃ u bs,e=.returned u∧BelowN w.heap.size w w'∧Z1 w' (EL rets y) u bs∧bs.Nodup∧∀ c∈bs,w.heap.size≤c:=by
 unfold Qpf at hrun
 obtain ⟨h0,hrun⟩:=Qn hrun
 have hn:=Nat.le_of_ble_eq_true h0
 have hra:=QpA (P:=P) (fn:=fn) hgl hF hlen hr hle hn
 have hH:=fun k=>QrR (P:=P) (gl:=gl) (A:=A) (I:=I) (con:=con) (fn:=fn) (c:=c) (fin:=QtI P fn rets) hcon k
 have hw:=GR (hH G3) (Qeb hH G3) c (fun _=>QtI P fn rets) y (fun m x hx=>hx) n _ _ _ w hrun hra
 refine calls_of_wp hf hb (wp_mono hw ?_)
 have fin:∀ a w',Fam P ⟨w.heap.size,[]⟩ ⟨w,F,gl,hgl⟩ 0 fn.ntmps (fun _ _=>undef) n (fun _=>QtI P fn rets .ret) y a w'→a.defers=[]∧∃ v,(results fn a.tmps).run P w'=.ok v w'∧∃ u bs,Ending.returned v=.returned u∧BelowN w.heap.size w w'∧Z1 w' (EL rets y) u bs∧bs.Nodup∧∀ c∈bs,w.heap.size≤c:=by
  rintro a w' ⟨m',hm',st',M',h,hk⟩
  refine ⟨h.defers,?_⟩
  obtain ⟨u,bs,k1,k2,k3,k4⟩:=QAh h hk
  exact ⟨u,k1,u,bs,rfl,h.rel.below.toN,k2,k3,fun c hc=>(h.rel.dpi.le (k4 c hc)).nil⟩
 intro e a w' hp
 cases e with
 | normal=>exact fin a w' hp
 | ret=>exact fin a w' hp
 | exit i =>
  obtain ⟨m',_,st',M',_,hk⟩:=hp
  simp only [QtI] at hk
  cases hk
 | goto l=>exact hp.elim
 | panic c=>exact hp.elim
 | outgrown=>exact hp.elim
def Ty.flat:Ty→Bool | .int _ | .bool | .str | .unit=>true | .pair a b=>a.flat&&b.flat | _=>false
theorem QpB {F:Snap}:∀ {t:Ty} {x:t.den} {cs:List Value},t.flat=true→RelD F t x cs→DeepD w t x cs []
 | .int _,_,_,_,h=>⟨h,rfl⟩
 | .bool,_,_,_,h=>⟨h,rfl⟩
 | .str,_,_,_,h=>⟨h,rfl⟩
 | .unit,_,_,_,h=>⟨h,rfl⟩
 | .pair a b,_,_,ht,⟨c1,c2,h,h1,h2⟩=>by
  simp only [Ty.flat,Bool.and_eq_true] at ht
  exact ⟨c1,c2,[],[],h,rfl,QpB ht.1 h1,QpB ht.2 h2⟩
 | .list _,_,_,ht,_=>by cases ht
 | .map _ _,_,_,ht,_=>by cases ht
 | .tree _,_,_,ht,_=>by cases ht
theorem QAi {n0:Nat} {F':Snap} {t:Ty} (ht:t.flat=true) {xs:List t.den} {u:Value} {o:Option Reg} (hd:RelD F' (.list t) xs [u]) (hg:Eg o u xs.length t.cells) (hF:∀ a u,F' a=some u→Sees w' a u)
  (ho:∀ reg,o=some reg→n0≤reg.g∧reg.n≤reg.cap∧reg.cap≤maxLen∧∃ cur e',w'.heap[reg.g]? = some (.cells cur e' (0,0))∧cur.size=reg.cap*reg.sz∧∀ ad,ad.block=reg.g→reg.n*reg.sz≤ad.off→F' ad=none) :
  ∃ bs,DeepD w' (.list t) xs [u] bs∧bs.Nodup∧∀ c∈bs,n0≤c:=by
 obtain ⟨a,cap,h1,h2,h3,h4,h5⟩:=hd
 by_cases hx:cap=0
 ·exact ⟨[],⟨a,cap,h1,h2,h3,h4,.inl ⟨hx,rfl⟩⟩,List.nodup_nil,fun c hc=>by cases hc⟩
 simp only [List.cons.injEq,and_true] at h1
 subst h1
 cases o with
 | none=>obtain ⟨h6,_⟩:=hg;injection h6 with _ _ h6;exact absurd h6 hx
 | some reg =>
  obtain ⟨k,ad,e1,e2,e3,e4,e5⟩:=hg
  obtain ⟨q1,q2,q3,cur,e',q4,q5,q6⟩:=ho reg rfl
  have ec:cap=reg.cap - k:=by injection e1
  have had:=e2 (by omega)
  subst had
  cases e1
  have hif0:xs.length*t.cells≤cur.size:=by rw [q5,e5];exact Nat.mul_le_mul_right _ (by omega)
  have hall:k*t.cells+(reg.cap - k)*t.cells≤cur.size:=by rw [q5,e5,← Nat.add_mul];exact Nat.mul_le_mul_right _ (by omega)
  refine ⟨[reg.g],⟨_,_,rfl,h2,h3,h4,.inr ⟨reg.g,k*t.cells,cur,e',List.replicate xs.length [],rfl,q4,by simp,by simp,hall,fun i x bi hxi hbi=>?_⟩⟩,by simp,fun c hc=>by rw [List.mem_singleton.1 hc];exact q1⟩
  have hil:i<xs.length:=(List.getElem?_eq_some_iff.1 hxi).1
  rw [List.getElem?_replicate,if_pos hil] at hbi
  cases hbi
  obtain ⟨_,es,he,hc⟩:=h5 _ rfl i x hxi
  have hel:=he.len
  have hif:i*t.cells+t.cells≤xs.length*t.cells:=by rw [← Nat.succ_mul];exact Nat.mul_le_mul_right _ hil
  have hes:(cur.toList.drop (k*t.cells+i*t.cells)).take t.cells=es:=by
   apply List.ext_getElem?
   intro j
   rw [List.getElem?_take]
   split
   ·rename_i hj
    obtain ⟨v,hv⟩:∃ v,es[j]? = some v:=⟨_,List.getElem?_eq_getElem (by omega)⟩
    have hs:=(hF _ _ (hc j v hv)).cell
    rw [V6 q4] at hs
    rw [List.getElem?_drop,hv,Array.getElem?_toList]
    exact hs
   ·rw [List.getElem?_eq_none (by omega)]
  rw [hes]
  exact QpB ht he
end
end Go.Ab
