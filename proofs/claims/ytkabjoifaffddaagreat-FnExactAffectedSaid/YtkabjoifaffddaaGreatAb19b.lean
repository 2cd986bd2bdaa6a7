import Derived.Test.YtkabjoifaffddaaGreatAb19p
namespace Go.Ab
noncomputable section
variable {R:Type}
def QbU (k:Nat):List (Nat × Nat):=(List.range k).map fun j=>(0,j+1)
def QqO (k:Nat):List V:=(List.range k).map fun j=>.ptr 0 (j+1) 0
def QBW (g k:Nat):V→Box | .d (.list t) xs=>.cells [.own 0 t xs] | .d .bool _=>.cells [.fn g (QqO k)] | .agg cs=>.cells cs | _=>.none
def bx0 (g k:Nat) (cs:List V):Nat→Nat→Box
 | 0,s+1=>match cs[s]? with
  | some c=>QBW g k c
  | none=>.none
 | _,_=>.none
def tm0 (k:Nat):Nat→Nat→V | 0,s+1=>bif Nat.blt s k then .ptr 0 (s+1) 0 else .any | _,_=>.any
def stB (gl:Nat→Option (List V)) (g k:Nat) (cs:List V):St:={ St.emptyW gl with tm:=tm0 k,bx:=bx0 g k cs }
def QxZ (P:Program) (gl:Nat→Option (List V)) (A:List (List Nat × Ann)) (I:List (List Nat × Nat)) (con:Nat→List V→(V→Option R)→Option R) (g:Nat) (fin:V→Z9 R):Nat→List Nat→List V→Option R
 | 0=>fun _ _=>none
 | n+1=>fun q vs=>match QgB ((QiV P (QxZ P gl A I con g fin n) A I con G3).lab 0 [0] g fin) q,Vq A q with
  | some f,some an=>f { QZ an vs with gl:=gl }
  | _,_=>none
def QBX (P:Program) (gl:Nat→Option (List V)) (A:List (List Nat × Ann)) (I:List (List Nat × Nat)) (con:Nat→List V→(V→Option R)→Option R) (g k:Nat) (fin:V→Z9 R) (n:Nat) (args cs:List V):Option R:=(QiV P (QxZ P gl A I con g fin n) A I con G3).inl 0 [0] g (args++QqO k) fin (stB gl g k cs)
def Qzp (g k:Nat) (ts:List Ty):V→Z9 (Wf ts):=fun ret st =>
 match QbL ((List.range k).map fun j=>st.tm 0 (j+1)) with
 | some ps=>bif ret.scl&&Qmm ps (QbU k) then (match Qv9 st g (QbU k) (QbU k),Qdy st (QbU k) with
  | some cs,[_]=>Qjo ts (.tup (ret::cs))
  | _,_=>none) else none
 | none=>none
section
variable {P:Program}
theorem QA8 {gl:Nat→Option (List V)} {A:List (List Nat × Ann)} {I:List (List Nat × Nat)} {con:Nat→List V→(V→Option R)→Option R} {g:Nat} {fin:V→Z9 R} (hcon:QlR P gl con) (k:Nat) :
  CtxOk P gl (Qlg P (QxZ P gl A I con g fin) A I con k) (fun m=>(QiV P (QxZ P gl A I con g fin m) A I con G3).lab 0 [0] g fin) where
 P_eq:=fun m=>(Ej _ _ _ _ k).1
 A_eq:=fun m m'=>by unfold Qlg;rw [(Ej _ _ _ _ k).2.1,(Ej _ _ _ _ k).2.1]
 I_eq:=fun m m'=>by unfold Qlg;rw [(Ej _ _ _ _ k).2.2.1,(Ej _ _ _ _ k).2.2.1]
 con:=fun m=>by unfold Qlg;rw [(Ej _ _ _ _ k).2.2.2.1];exact hcon
 L:=by
  intro m q vs r hl
  unfold Qlg at hl ⊢
  rw [(Ej _ _ _ _ k).2.2.2.2] at hl
  rw [(Ej _ _ _ _ k).2.1]
  cases m with
  | zero=>simp only [QxZ] at hl;cases hl
  | succ m =>
   simp only [QxZ] at hl
   split at hl
   case h_2=>cases hl
   rename_i f an hf han
   exact ⟨m,f,an,rfl,hf,han,hl⟩
theorem QuF {k j:Nat} {p:Nat × Nat} (h:(QbU k)[j]? = some p):p=(0,j+1)∧j<k:=by
 unfold QbU at h
 rw [List.getElem?_map,Option.map_eq_some_iff] at h
 obtain ⟨i,hi,rfl⟩:=h
 obtain ⟨h1,h2⟩:=List.getElem?_eq_some_iff.1 hi
 rw [List.getElem_range] at h2
 subst h2
 exact ⟨rfl,by simpa using h1⟩
theorem Qx0 (k:Nat):(QbU k).length=k:=by simp [QbU]
theorem Qeu {k j:Nat} (h:j<k):(QbU k)[j]? = some (0,j+1):=by
 unfold QbU
 rw [List.getElem?_map,List.getElem?_eq_getElem (by simpa using h),List.getElem_range]
 rfl
theorem Qzq {k:Nat}:∀ p∈QbU k,p.1≤0:=by
 intro p hp
 obtain ⟨j,hj⟩:=List.getElem?_of_mem hp
 rw [(QuF hj).1]
 exact Nat.le_refl _
theorem QwU:∀ {ts:List Ty} {vs:List V} {y:Wf ts},Wj ts vs=some y→(ZR ts y).length=vs.length∧∀ (j:Nat) c,(ZR ts y)[j]? = some c→∃ (t:Ty) (x:t.den) (v:V),c=JO t x∧vs[j]? = some v∧Y1 t v=some x
 | [],[],y,_=>⟨rfl,fun j c hc=>by simp [ZR] at hc⟩
 | [],_::_,_,h=>by simp [Wj] at h
 | [t],[],_,h=>by simp [Wj] at h
 | [t],[v],y,h=>by
  refine ⟨rfl,fun j c hc=>?_⟩
  cases j with
  | zero =>
   simp only [ZR,List.getElem?_cons_zero,Option.some.injEq] at hc
   exact ⟨t,y,v,hc.symm,rfl,h⟩
  | succ j=>simp [ZR] at hc
 | [t],_::_::_,_,h=>by simp [Wj] at h
 | _::_::_,[],_,h=>by simp [Wj] at h
 | t::t2::ts,v::vs,y,h=>by
  simp only [Wj] at h
  split at h
  case h_2=>cases h
  rename_i x z hx hz
  cases h
  obtain ⟨k1,k2⟩:=QwU hz
  refine ⟨by simp only [ZR,List.length_cons,k1],fun j c hc=>?_⟩
  cases j with
  | zero =>
   simp only [ZR,List.getElem?_cons_zero,Option.some.injEq] at hc
   exact ⟨t,x,v,hc.symm,rfl,hx⟩
  | succ j=>exact k2 j c (by simpa [ZR] using hc)
theorem Qzr {M:Me} {o:Option Reg} {g:Nat} {bs:List Nat} {t:Ty} {x:t.den} {v:V} {arr:Array Value} (h:Y1 t v=some x) (hb:QjB M o g bs v arr):Qsw M.F o g bs (JO t x) arr:=by
 have agg:∀ cs,v=.agg cs→YN t cs=some x→JO t x=.agg (Qm t x)→Qsw M.F o g bs (JO t x) arr:=by
  intro cs hv hp hu
  subst hv
  rw [hu]
  exact ⟨t,x,rfl,V5 hp hb⟩
 have kind:t.scalar=true→Gs t v=some x→JO t x=.d t x→Qsw M.F o g bs (JO t x) arr:=by
  intro hsc hp hu
  have hin:=QuD h hb
  rw [hu] at hin ⊢
  unfold QjB at hin
  split at hin
  ·rename_i t' xs he;cases he;exact hin
  ·rename_i he;cases he
  ·rename_i z he;cases he;exact hin
  ·rename_i he;cases he
  ·exact hin.elim
 cases t with
 | pair a b =>
  cases v with
  | agg cs=>exact agg cs rfl h rfl
  | _=>simp [Y1] at h
 | unit =>
  cases v with
  | agg cs=>exact agg cs rfl h rfl
  | _=>simp [Y1] at h
 | tree a =>
  cases v with
  | agg cs=>exact agg cs rfl h rfl
  | _=>simp [Y1] at h
 | int k=>exact kind rfl h rfl
 | bool=>exact kind rfl h rfl
 | str=>exact kind rfl h rfl
 | list t=>exact kind rfl h rfl
 | map k e=>exact kind rfl h rfl
def QuG (g:Nat) (tys rets:List Ty) (f:HJ tys→Option (Wf rets)):Ctr:=⟨Yc+g,tys,rets,f⟩
theorem QvS {bs:List Nat} {j b:Nat} (h:bs[j]? = some b):(Qpw bs)[j]? = some (.pointer (some ⟨b,0,none⟩)):=by
 unfold Qpw
 rw [List.getElem?_map,h]
 rfl
theorem Qn1 {k j:Nat} {c:V} (h:(QqO k)[j]? = some c):c=.ptr 0 (j+1) 0∧j<k:=by
 unfold QqO at h
 rw [List.getElem?_map,Option.map_eq_some_iff] at h
 obtain ⟨i,hi,rfl⟩:=h
 obtain ⟨h1,h2⟩:=List.getElem?_eq_some_iff.1 hi
 rw [List.getElem_range] at h2
 subst h2
 exact ⟨rfl,by simpa using h1⟩
theorem Qx1 {gl:Nat→Option (List V)} {g k n0:Nat} {tys:List Ty} {t1 t2:Ty} {ts:List Ty} {f:HJ tys→Option (Wf (t1::t2::ts))} (hlt:Nat.blt g Q2=true) (hk:Nat.beq (t2::ts).length k=true) (hn0:Nat.beq tys.length (n0+k)=true) (he:JG P g=true)
  {A:List (List Nat × Ann)} {I:List (List Nat × Nat)} {cs:List Ctr} (hcs:∀ x∈cs,CtrOkG P gl x)
  (hrun:∀ xs y,f xs=some y→∃ n,QBX P gl A I (QaD cs) g k (Qzp g k (t1::t2::ts)) n ((Jh tys xs).take n0) ((Jh tys xs).drop n0)=some y):CtrOkG P gl (QuG g tys (t1::t2::ts) f):=by
 intro xs y hy
 obtain ⟨n,hn⟩:=hrun xs y hy
 have hge:Yc≤(QuG g tys (t1::t2::ts) f).g:=by show Yc≤Yc+g;omega
 have hk:=Nat.eq_of_beq_eq_true hk
 have hn0:=Nat.eq_of_beq_eq_true hn0
 refine ⟨fun h1=>(Nat.lt_irrefl _ (Nat.lt_of_lt_of_le h1 (Nat.le_trans box_le.1 hge))).elim,fun _ h1=>(Nat.lt_irrefl _ (Nat.lt_of_lt_of_le h1 (Nat.le_trans box_le.2.1 hge))).elim,fun _ h1=>(Nat.lt_irrefl _ (Nat.lt_of_lt_of_le h1 (Nat.le_trans box_le.2.2.1 hge))).elim,
  fun _ h1=>(Nat.lt_irrefl _ (Nat.lt_of_lt_of_le h1 (Nat.le_trans box_le.2.2.2 hge))).elim,fun _ h1=>(Nat.lt_irrefl _ (Nat.lt_of_lt_of_le h1 hge)).elim,fun _ _=>?_,fun h1=>(by have h0:=US hlt;have h1:Vg≤Yc+g:=h1;unfold Q2 at h0;unfold Vg Yc at h1;omega:False).elim⟩
 rw [show (QuG g tys (t1::t2::ts) f).g - Yc=g from Nat.add_sub_cancel_left _ _]
 intro rt outs hv
 have hv:V.tup (ZR (t1::t2::ts) y)=.tup (rt::outs):=hv
 simp only [ZR,V.tup.injEq,List.cons.injEq] at hv
 obtain ⟨hv1,hv2⟩:=hv
 refine ⟨he,fun M w vals bs o hG hF hl hol hr hbn hbx hreg=>?_⟩
 have hl:(Jh tys xs).length=vals.length+bs.length:=hl
 have hr:∀ (j:Nat) c u,(Jh tys xs)[j]? = some c→vals[j]? = some u→RelV M c u:=hr
 have hbx:∀ (j:Nat) b c,bs[j]? = some b→(Jh tys xs)[vals.length+j]? = some c→∃ T arr,w.heap[b]? = some (.cells arr T (0,0))∧(∀ a,a.block=b→M.F a=none)∧QjB M o g bs c arr:=hbx
 have hul:(ZR (t2::ts) y.2).length=(t2::ts).length:=by
  clear hv2 hbx hr hl hn hrun
  generalize y.2=z
  revert z
  generalize t2::ts=l
  intro z
  induction l with
  | nil=>rfl
  | cons a l ih =>
   cases l with
   | nil=>rfl
   | cons b l=>simp only [ZR,List.length_cons];have:=ih z.2;simp only [List.length_cons] at this;rw [this]
 have hbk:bs.length=k:=by rw [← hol,← hv2,hul,hk]
 have hal:∀ (l:List Ty) (z:HJ l),(Jh l z).length=l.length:=by
  intro l
  induction l with
  | nil=>intro z;rfl
  | cons a l ih=>intro z;simp [Jh,ih z.2]
 have hvn:vals.length=n0:=by have:=hal tys xs;omega
 subst hvn
 generalize hav:Jh tys xs=av at *
 have hdrop:∀ j,(av.drop vals.length)[j]? = av[vals.length+j]?:=fun j=>List.getElem?_drop
 have hgi:∀ j,j<k→∃ b,bs[j]? = some b:=fun j hj=>⟨bs[j],List.getElem?_eq_getElem (by omega)⟩
 have hci:∀ j,j<k→∃ c,av[vals.length+j]? = some c:=fun j hj=>⟨av[vals.length+j],List.getElem?_eq_getElem (by omega)⟩
 let μ0:Nat→Nat→Option (Nat × Nat):=fun d s=>match d,s with
  | 0,s+1=>(bs[s]?).map fun b=>(b,0)
  | _,_=>none
 let θ0:Nat→Nat→Value:=fun d s=>match d,s with
  | 0,s+1=>((Qpw bs)[s]?).getD undef
  | _,_=>undef
 let M0:Me:=⟨M.F,μ0,fun q=>if q=0 then some o else none,1,.no⟩
 have hμ:∀ d s b m,μ0 d s=some (b,m)→d=0∧m=0∧∃ j,s=j+1∧bs[j]? = some b:=by
  intro d s b m h
  match d,s with
  | 0,0=>cases h
  | d+1,_=>cases h
  | 0,s+1 =>
   have h:(bs[s]?).map (fun b=>(b,0))=some (b,m):=h
   obtain ⟨b',h1,h2⟩:=Option.map_eq_some_iff.1 h
   cases h2
   exact ⟨rfl,rfl,s,rfl,h1⟩
 have hμ1:∀ j b,bs[j]? = some b→μ0 0 (j+1)=some (b,0):=by
  intro j b h
  show (bs[j]?).map (fun b=>(b,0))=some (b,0)
  rw [h];rfl
 have hθ1:∀ j b,bs[j]? = some b→θ0 0 (j+1)=.pointer (some ⟨b,0,none⟩):=by
  intro j b h
  show ((Qpw bs)[j]?).getD undef=_
  rw [QvS h];rfl
 have hτ:∀ q o',M0.τ q=some o'→q=0∧o=o':=by
  intro q o' h
  have h:(if q=0 then some o else none)=some o':=h
  by_cases e:q=0
  ·rw [if_pos e] at h;exact ⟨e,Option.some.inj h⟩
  ·rw [if_neg e] at h;cases h
 have hptr:∀ j b,bs[j]? = some b→RelV M0 (.ptr 0 (j+1) 0) (.pointer (some ⟨b,0,none⟩)):=fun j b h=>.ptr _ _ _ b 0 (hμ1 j b h)
 have hrel:Rel P (QtY w bs o) ⟨w,M.F,gl,hG⟩ 0 (stB gl g k (av.drop vals.length)) θ0 M0 w:=by
  refine ⟨hF,?_,?_,?_,?_,?_,?_,?_,?_,?_,?_,rfl,?_,Nat.le_refl _,.refl _ _,.refl _,fun _ _ h=>.inl h,rfl,fun _ _ h=>(by cases h),.no rfl⟩
  ·intro d t hd
   have e:d=0:=by omega
   subst e
   match t with
   | 0=>exact .any _
   | t+1 =>
    show RelV M0 (bif Nat.blt t k then .ptr 0 (t+1) 0 else .any) (θ0 0 (t+1))
    cases hb:Nat.blt t k with
    | false=>exact .any _
    | true =>
     obtain ⟨b,hb'⟩:=hgi t (US hb)
     rw [hθ1 t b hb']
     exact hptr t b hb'
  ·intro d t hd
   have e:d=0:=by omega
   subst e
   match t with
   | 0=>rfl
   | t+1 =>
    show V.le 0 (bif Nat.blt t k then .ptr 0 (t+1) 0 else .any)=true
    cases Nat.blt t k<;>rfl
  ·intro d s hd
   have e:d=0:=by omega
   subst e
   match s with
   | 0=>rfl
   | s+1 =>
    show match (match (av.drop vals.length)[s]? with | some c=>QBW g k c | none=>Box.none) with
     | .none=>μ0 0 (s+1)=none
     | .cells cs=>∃ b T arr,μ0 0 (s+1)=some (b,0)∧Own (QtY w bs o) b∧w.heap[b]? = some (.cells arr T (0,0))∧RelL M0 cs arr.toList∧V.le.leL 0 cs=true
     | .rows ty xs=>_
     | .map k v es=>_
    rw [hdrop]
    cases hc:av[vals.length+s]? with
    | none =>
     show (bs[s]?).map _=none
     have:bs.length≤s:=by have:=List.getElem?_eq_none_iff.1 hc;omega
     rw [List.getElem?_eq_none this];rfl
    | some c =>
     have hs:s<bs.length:=by have:=(List.getElem?_eq_some_iff.1 hc).1;omega
     have hb:=List.getElem?_eq_getElem hs
     obtain ⟨T,arr,p1,p2,p3⟩:=hbx s _ c hb hc
     have hown:Own (QtY w bs o) bs[s]:=.inr (List.mem_append_left _ (List.getElem_mem hs))
     have hm:=hμ1 s _ hb
     obtain ⟨t,x,rfl⟩:=Hg tys xs c (by rw [hav];exact List.mem_of_getElem? hc)
     have single:∀ (v:V) (u:Value),arr=#[u]→RelV M0 v u→u.oneCell'=true→RelL M0 [v] arr.toList:=by
      intro v u e1 e2 e3
      subst e1
      refine ⟨rfl,fun i c u' hc hu=>?_,fun u' hu=>by rw [List.mem_singleton.1 hu];exact e3⟩
      cases i with
      | zero=>simp only [List.getElem?_cons_zero,Option.some.injEq] at hc hu;subst hc;subst hu;exact e2
      | succ i=>simp at hc
     have agg:∀ l,(∀ c∈l,∃ (t':Ty) (x':t'.den),c=.d t' x')→RelL M l arr.toList→RelL M0 l arr.toList:=by
      intro l hl h
      refine ⟨h.len,fun i c u hc hu=>?_,h.one⟩
      obtain ⟨t',x',rfl⟩:=hl c (List.mem_of_getElem? hc)
      exact d_F (M:=M) (M':=M0) rfl (h.at_ i _ u hc hu)
     have lel:∀ l:List V,(∀ c∈l,∃ (t':Ty) (x':t'.den),c=.d t' x')→V.le.leL 0 l=true:=by
      intro l hl
      refine Ug fun c hc=>?_
      obtain ⟨t',x',rfl⟩:=hl c hc
      rfl
     cases t with
     | pair a b=>exact ⟨bs[s],T,arr,hm,hown,p1,agg _ (HR (.pair a b) x) p3,lel _ (HR (.pair a b) x)⟩
     | unit=>exact ⟨bs[s],T,arr,hm,hown,p1,agg _ (fun c hc=>by cases hc) p3,rfl⟩
     | tree a=>exact ⟨bs[s],T,arr,hm,hown,p1,agg _ (HR (.tree a) x) p3,lel _ (HR (.tree a) x)⟩
     | list t =>
      obtain ⟨u,e1,e2,e3⟩:=p3
      refine ⟨bs[s],T,arr,hm,hown,p1,single _ u e1 (.own _ _ _ _ e2 Nat.one_pos fun reg hr=>?_) ?_,rfl⟩
      ·obtain ⟨_,rfl⟩:=hτ 0 reg hr;exact e3
      ·obtain ⟨_,_,e4,_⟩:=e2
       simp only [List.cons.injEq,and_true] at e4
       rw [e4];rfl
     | bool =>
      refine ⟨bs[s],T,arr,hm,hown,p1,single _ _ p3 (.fn _ _ _ (by simp [QqO,Qpw,hbk]) fun i c u hc hu=>?_) rfl,?_⟩
      ·obtain ⟨rfl,hi⟩:=Qn1 hc
       obtain ⟨b,hb⟩:=hgi i hi
       have:(Qpw bs)[i]? = some u:=by simpa using hu
       rw [QvS hb] at this
       cases this
       exact hptr i b hb
      ·show V.le.leL 0 [V.fn g (QqO k)]=true
       simp only [V.le.leL,V.le,Bool.and_true]
       refine Ug fun c hc=>?_
       obtain ⟨i,hi⟩:=List.getElem?_of_mem hc
       rw [(Qn1 hi).1];rfl
     | int q=>exact p3.elim
     | str=>exact p3.elim
     | map a b=>exact p3.elim
  ·intro d s hd
   match d with
   | d+1=>rfl
  ·intro d s d' s' b m m' h1 h2
   obtain ⟨rfl,_,j,rfl,e1⟩:=hμ d s b m h1
   obtain ⟨rfl,_,j',rfl,e2⟩:=hμ d' s' b m' h2
   have h3:=(List.getElem?_eq_some_iff.1 e1).1
   refine ⟨rfl,?_⟩
   rw [(List.getElem?_inj h3 hbn).1 (e1.trans e2.symm)]
  ·intro d s b m a h1 h2
   obtain ⟨_,_,j,_,e1⟩:=hμ d s b m h1
   have hj:j<k:=by have:=(List.getElem?_eq_some_iff.1 e1).1;omega
   obtain ⟨c,hc⟩:=hci j hj
   obtain ⟨_,_,_,p2,_⟩:=hbx j b c e1 hc
   exact p2 a h2
  ·intro q o' h
   obtain ⟨rfl,rfl⟩:=hτ q o' h
   refine ⟨Nat.one_pos,rfl,fun reg hr=>?_⟩
   obtain ⟨h1,h2,_,h3⟩:=hreg reg hr
   refine ⟨?_,h1,h2,h3⟩
   subst hr
   exact .inr (List.mem_append_right _ (List.mem_singleton.2 rfl))
  ·intro q hq
   refine ⟨o,?_⟩
   have:q=0:=by
    cases q with
    | zero=>rfl
    | succ q=>exact absurd hq (by simp [stB,St.emptyW,Qu5])
   subst this
   rfl
  ·intro q q' reg reg' h1 h2 _
   rw [(hτ q _ h1).1,(hτ q' _ h2).1]
  ·intro q reg d s b m h1 h2 e
   obtain ⟨_,h3⟩:=hτ q _ h1
   obtain ⟨_,_,j,_,e1⟩:=hμ d s b m h2
   obtain ⟨_,_,h4,_⟩:=hreg reg h3
   exact h4 (by rw [e];exact List.mem_of_getElem? e1)
  ·intro q hq
   cases q with
   | zero=>exact absurd hq (by simp [stB,St.emptyW])
   | succ q=>rfl
 have hH:=fun q=>QA8 (P:=P) (gl:=gl) (A:=A) (I:=I) (con:=QaD cs) (g:=g) (fin:=Qzp g k (t1::t2::ts)) (QgL hcs) q
 have hI:=Qeb (base:=QtY w bs o) (w0:=⟨w,M.F,gl,hG⟩) hH G3 0 [0] g (fun _=>Qzp g k (t1::t2::ts)) (fun m x hx=>hx) n (av.take vals.length++QqO k) (stB gl g k (av.drop vals.length)) y M0 θ0 w (vals++Qpw bs) hn hrel
  (by simp [QqO,Qpw];omega) (fun i c u hc hu=>by
   by_cases hi:i<vals.length
   ·rw [List.getElem?_append_left (by simp;omega),List.getElem?_take,if_pos hi] at hc
    rw [List.getElem?_append_left hi] at hu
    obtain ⟨t,x,rfl⟩:=Hg tys xs c (by rw [hav];exact List.mem_of_getElem? hc)
    exact QgM (M:=M) (M':=M0) rfl (hr i _ u hc hu)
   ·rw [List.getElem?_append_right (by simp;omega)] at hc
    rw [List.getElem?_append_right (by omega)] at hu
    have e:i - (av.take vals.length).length=i - vals.length:=by simp;omega
    rw [e] at hc
    obtain ⟨rfl,hj⟩:=Qn1 hc
    obtain ⟨b,hb⟩:=hgi _ hj
    rw [QvS hb] at hu
    cases hu
    exact hptr _ b hb) (by
   refine QmG ?_ ?_
   ·refine Ug fun c hc=>?_
    obtain ⟨t,x,rfl⟩:=Hg tys xs c (by rw [hav];exact List.mem_of_mem_take hc)
    exact WR 0 t x
   ·refine Ug fun c hc=>?_
    obtain ⟨i,hi⟩:=List.getElem?_of_mem hc
    rw [(Qn1 hi).1];rfl)
 refine hI.2.mono fun e w'=>?_
 rintro ⟨u,v,m',st',M',_,rfl,hfin,hrel',hvu,_⟩
 unfold Qzp at hfin
 split at hfin
 case h_2=>cases hfin
 rename_i ps hps
 obtain ⟨h0,hfin2⟩:=Qn hfin
 clear hfin
 simp only [Bool.and_eq_true] at h0
 obtain rfl:=Qpx h0.2
 split at hfin2
 case h_2=>cases hfin2
 rename_i cs' x hcs' htk
 have hpk:Wj (t1::t2::ts) (v::cs')=some y:=hfin2
 obtain ⟨hpl,hpa⟩:=QwU hpk
 have hpt:∀ j,j<k→st'.tm 0 (j+1)=.ptr 0 (j+1) 0:=by
  intro j hj
  have key:∀ (l:List V) (q:List (Nat × Nat)),QbL l=some q→∀ (i:Nat) (p:Nat × Nat),q[i]? = some p→l[i]? = some (V.ptr p.1 p.2 0):=by
   intro l
   induction l with
   | nil=>intro q hq i p hp;cases hq;simp at hp
   | cons c l ih =>
    intro q hq i p hp
    cases c with
    | ptr d s off =>
     simp only [QbL] at hq
     obtain ⟨h0,hq⟩:=Qn hq
     obtain ⟨q',h1,rfl⟩:=Option.map_eq_some_iff.1 hq
     obtain rfl:=Nat.eq_of_beq_eq_true h0
     cases i with
     | zero=>simp only [List.getElem?_cons_zero,Option.some.injEq] at hp ⊢;rw [← hp]
     | succ i=>simpa using ih q' h1 i p (by simpa using hp)
    | _=>simp [QbL] at hq
  have h1:=key _ _ hps j _ (Qeu hj)
  rw [List.getElem?_map,List.getElem?_eq_getElem (by simpa using hj),List.getElem_range] at h1
  exact Option.some.inj h1
 have hmu:∀ (j:Nat) p b,(QbU k)[j]? = some p→bs[j]? = some b→∃ m,M'.μ p.1 p.2=some (b,m):=by
  intro j p b hp hb
  obtain ⟨rfl,hj⟩:=QuF hp
  have h1:=hrel'.tm 0 (j+1) (Nat.le_refl _)
  rw [hpt j hj,hθ1 j b hb] at h1
  obtain ⟨b',m,h2,h3⟩:=h1.ptr_inv
  cases h2
  exact ⟨m,h3⟩
 obtain ⟨oo,hsp,hsn⟩:∃ oo,(∀ q,x=some q→M'.τ q=some oo)∧(x=none→oo=none):=by
  cases x with
  | none=>exact ⟨none,fun q hq=>(by cases hq),fun _=>rfl⟩
  | some q =>
   obtain ⟨p,hp,t,xs',hbx'⟩:=Qen (st:=st') (ps:=QbU k) (k:=q) (by rw [htk];exact List.mem_cons_self)
   obtain ⟨j,hj⟩:=List.getElem?_of_mem hp
   obtain ⟨hcl,hcat⟩:=QnP hcs'
   have hjl:j<cs'.length:=by rw [hcl];exact (List.getElem?_eq_some_iff.1 hj).1
   have hv:=hcat j p _ hj (List.getElem?_eq_getElem hjl)
   unfold Qv8 at hv
   rw [hbx'] at hv
   obtain ⟨hlv,_⟩:=Qn hv
   obtain ⟨oo,ho⟩:=hrel'.live q hlv
   exact ⟨oo,fun q' hq'=>by cases hq';exact ho,fun e=>by cases e⟩
 have hreg1:∀ reg,oo=some reg→∃ q,M'.τ q=some (some reg):=by
  intro reg hreg
  cases x with
  | none=>rw [hsn rfl] at hreg;cases hreg
  | some q=>exact ⟨q,by rw [hsp q rfl,hreg]⟩
 obtain ⟨hcl,hcat⟩:=QnP hcs'
 refine ⟨u,M'.F,oo,rfl,hrel'.F0,fun a z hz=>⟨hrel'.F a z hz,hrel'.Fnew a z hz⟩,hrel'.below,fun M'' hM''=>?_,fun j b c hb hc=>?_,fun reg hr=>?_⟩
 ·obtain ⟨t,z,v',e1,e2,e3⟩:=hpa 0 (JO t1 y.1) rfl
  simp only [List.getElem?_cons_zero,Option.some.injEq] at e2
  subst e2
  rw [← hv1,e1]
  exact QgM (M:=M') hM'' (Uh (UJ e3 hvu))
 ·have hj:j<k:=by have:=(List.getElem?_eq_some_iff.1 hb).1;omega
  rw [← hv2] at hc
  obtain ⟨t,z,v',e1,e2,e3⟩:=hpa (j+1) c (by simpa [ZR] using hc)
  have e2:cs'[j]? = some v':=by simpa using e2
  obtain ⟨T,arr,n1,n2⟩:=QvE hrel' (by rw [Qx0];exact hbk) hmu htk hsp hsn Qzq (Qeu hj) hb (hcat j _ v' (Qeu hj) e2)
  obtain ⟨m,hm⟩:=hmu j _ b (Qeu hj) hb
  rw [e1]
  exact ⟨T,arr,n1,fun a ha=>hrel'.Fbox _ _ _ _ a hm ha,Qzr e3 n2⟩
 ·obtain ⟨q,hq⟩:=hreg1 reg hr
  obtain ⟨_,_,h1⟩:=hrel'.tok q _ hq
  obtain ⟨r1,r2,r3,r4⟩:=h1 reg rfl
  refine ⟨r1,r2,r3,fun hm=>?_,r4⟩
  obtain ⟨j,hj⟩:=List.getElem?_of_mem hm
  have hjk:j<k:=by have:=(List.getElem?_eq_some_iff.1 hj).1;omega
  obtain ⟨m,hm⟩:=hmu j _ _ (Qeu hjk) hj
  exact hrel'.tbox q reg _ _ _ _ hq hm rfl
end
end
end Go.Ab
