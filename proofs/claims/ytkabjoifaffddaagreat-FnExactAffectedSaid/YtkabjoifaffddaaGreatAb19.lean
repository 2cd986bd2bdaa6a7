import Derived.Test.YtkabjoifaffddaaGreatAb18
import Derived.Test.YtkabjoifaffddaaGreatAb16d
namespace Go.Ab
structure Ctr where
 g:Nat
 tys:List Ty
 rets:List Ty
 f:HJ tys→Option (Wf rets)
def QgJ:(ts:List Ty)→List V→Option (HJ ts)
 | [],[]=>some ()
 | t::ts,v::vs=>match Y1 t v,QgJ ts vs with
  | some x,some y=>some (x,y)
  | _,_=>none
 | _,_=>none
def Qyz:List Ctr→Nat→Option Ctr | [],_=>none | c::cs,g=>bif Nat.beq c.g g then some c else Qyz cs g
def QaD (cs:List Ctr) {R:Type}:Nat→List V→(V→Option R)→Option R:=fun g args K =>
 match Qyz cs g with
 | some c=>match QgJ c.tys args with
  | some xs=>match c.f xs with
   | some y=>K (EL c.rets y)
   | none=>none
  | none=>none
 | none=>none
def CtrOkG (P:Program) (gl:Nat→Option (List V)) (c:Ctr):Prop:=∀ xs y,c.f xs=some y→QBv P gl c.g (Jh c.tys xs) (EL c.rets y)
abbrev G4 (P:Program) (c:Ctr):Prop:=CtrOkG P noG c
theorem CtrOkG.any {P:Program} {c:Ctr} (h:G4 P c) {gl:Nat→Option (List V)}:CtrOkG P gl c:=by
 intro xs y hy
 obtain ⟨h1,h2,h3,h4,h5,h6,h7⟩:=h xs y hy
 refine ⟨fun hlt=>?_,fun hge hlt t ys hv=>?_,fun hge hlt=>?_,h4,fun hge hlt t ys hv=>?_,fun hge hlt rt outs hv=>?_,fun hge t xs ys rest ha hv=>?_⟩
 ·obtain ⟨a1,a2,a3⟩:=h1 hlt
  exact ⟨a1,a2,fun M w vals _=>a3 M w vals (GlobOk.none _)⟩
 ·obtain ⟨a1,a3⟩:=h2 hge hlt t ys hv
  exact ⟨a1,fun M w vals _=>a3 M w vals (GlobOk.none _)⟩
 ·obtain ⟨a1,a3⟩:=h3 hge hlt
  exact ⟨a1,fun M w vals _=>a3 M w vals (GlobOk.none _)⟩
 ·obtain ⟨a1,a3⟩:=h5 hge hlt t ys hv
  exact ⟨a1,fun M w vals u n o _=>a3 M w vals u n o (GlobOk.none _)⟩
 ·obtain ⟨a1,a3⟩:=h6 hge hlt rt outs hv
  exact ⟨a1,fun M w vals bs o _=>a3 M w vals bs o (GlobOk.none _)⟩
 ·obtain ⟨a1,a3⟩:=h7 hge t xs ys rest ha hv
  exact ⟨a1,fun M w u vals o _=>a3 M w u vals o (GlobOk.none _)⟩
theorem QsQ (n:Nat):∀ (ts:List Ty) (x:Wf ts),V.le.leL n (ZR ts x)=true
 | [],_=>rfl
 | [t],x=>by simp only [ZR,V.le.leL,Bool.and_true];exact WR n t x
 | t::u::ts,x=>by
  simp only [ZR,V.le.leL,Bool.and_eq_true]
  exact ⟨WR n t x.1,QsQ n (u::ts) x.2⟩
theorem QsR (n:Nat):∀ (ts:List Ty) (x:Wf ts),(EL ts x).le n=true | [],_=>rfl | [t],x=>WR n t x | t::u::ts,x=>QsQ n (t::u::ts) x
theorem Qec {M:Me}:∀ {ts:List Ty} {vs:List V} {us:List Value} {xs:HJ ts},QgJ ts vs=some xs→vs.length=us.length→(∀ (i:Nat) c u,vs[i]? = some c→us[i]? = some u→RelV M c u) →
  (Jh ts xs).length=us.length∧∀ (i:Nat) c u,(Jh ts xs)[i]? = some c→us[i]? = some u→RelV M c u
 | [],[],us,xs,_,hl,_=>⟨hl,fun i c u hc=>by simp [Jh] at hc⟩
 | t::ts,v::vs,[],xs,h,hl,hr=>by cases hl
 | t::ts,v::vs,u::us,xs,h,hl,hr=>by
  simp only [QgJ] at h
  split at h
  case h_2=>cases h
  rename_i x y hx hy
  cases h
  obtain ⟨k1,k2⟩:=Qec hy (by simpa using hl) (fun i c u hc hu=>hr (i+1) c u hc hu)
  refine ⟨by simp [Jh,k1],fun i c u' hc hu=>?_⟩
  cases i with
  | zero =>
   simp only [Jh,List.getElem?_cons_zero,Option.some.injEq] at hc hu
   subst hc;subst hu
   exact Uh (UJ hx (hr 0 v u rfl rfl))
  | succ i=>exact k2 i c u' (by simpa [Jh] using hc) (by simpa using hu)
theorem QwI:∀ {ts:List Ty} {vs:List V} {xs:HJ ts},QgJ ts vs=some xs→(Jh ts xs).length=vs.length∧∀ (j:Nat) c,(Jh ts xs)[j]? = some c→∃ (t:Ty) (x:t.den) (v:V),c=JO t x∧vs[j]? = some v∧Y1 t v=some x
 | [],[],xs,_=>⟨rfl,fun j c hc=>by simp [Jh] at hc⟩
 | [],_::_,_,h=>by cases h
 | _::_,[],_,h=>by cases h
 | t::ts,v::vs,xs,h=>by
  simp only [QgJ] at h
  split at h
  case h_2=>cases h
  rename_i x y hx hy
  cases h
  obtain ⟨k1,k2⟩:=QwI hy
  refine ⟨by simp [Jh,k1],fun j c hc=>?_⟩
  cases j with
  | zero =>
   simp only [Jh,List.getElem?_cons_zero,Option.some.injEq] at hc
   exact ⟨t,x,v,hc.symm,rfl,hx⟩
  | succ j=>exact k2 j c (by simpa [Jh] using hc)
theorem QuC:∀ {cs:List Ctr} {g:Nat} {c:Ctr},Qyz cs g=some c→c∈cs∧c.g=g
 | [],_,_,h=>by cases h
 | c::cs,g,c',h=>by
  simp only [Qyz] at h
  cases hb:Nat.beq c.g g with
  | true =>
   rw [hb] at h
   simp only [cond_true,Option.some.injEq] at h
   subst h
   exact ⟨List.mem_cons_self,Nat.eq_of_beq_eq_true hb⟩
  | false =>
   rw [hb] at h
   obtain ⟨h1,h2⟩:=QuC (cs:=cs) h
   exact ⟨List.mem_cons_of_mem _ h1,h2⟩
theorem EO {t:Ty} {x:t.den} {t':Ty} {y:t'.den} (h:Gs t (.d t' y)=some x):V.d t' y=.d t x:=by
 have key:cast? t' t y=some x:=by
  cases t<;>exact h
 unfold cast? at key
 split at key
 ·rename_i e _
  subst e
  simp only [Option.some.injEq] at key
  subst key
  rfl
 ·cases key
theorem QuD {M:Me} {o:Option Reg} {g:Nat} {bs:List Nat} {t:Ty} {x:t.den} {v:V} {arr:Array Value} (h:Y1 t v=some x) (hb:QjB M o g bs v arr):QjB M o g bs (JO t x) arr:=by
 have agg:∀ cs,v=.agg cs→YN t cs=some x→JO t x=.agg (Qm t x)→QjB M o g bs (JO t x) arr:=by
  intro cs hv hp hu
  subst hv
  rw [hu]
  exact Yf (V5 hp hb)
 have one:∀ (t':Ty) (y:t'.den),v=.d t' y→Gs t v=some x→JO t x=.d t x→QjB M o g bs (JO t x) arr:=by
  intro t' y hv hp hu
  subst hv
  rw [hu,← EO hp]
  exact hb
 have kind:Gs t v=some x→JO t x=.d t x→QjB M o g bs (JO t x) arr:=by
  intro hp hu
  cases v with
  | d t' y=>exact one t' y rfl hp hu
  | nils =>
   cases t with
   | list t =>
    obtain ⟨rfl,rfl⟩:=hb
    simp only [Gs,Option.some.injEq] at hp
    subst hp
    exact ⟨_,rfl,QcE _ _,rfl,rfl⟩
   | _=>cases hp
  | agg cs=>exfalso;cases t<;>simp [Gs] at hp
  | own tok t' xs=>exact hb.elim
  | _=>exact hb.elim
 cases t with
 | pair a b =>
  cases v with
  | agg cs=>exact agg cs rfl h rfl
  | _=>simp [Y1] at h
 | unit =>
  cases v with
  | agg cs=>exact agg cs rfl h rfl
  | _=>simp [Y1] at h
 | tree a =>
  cases v with
  | agg cs=>exact agg cs rfl h rfl
  | _=>simp [Y1] at h
 | int k=>exact kind h rfl
 | bool=>exact kind h rfl
 | str=>exact kind h rfl
 | list t=>exact kind h rfl
 | map k e=>exact kind h rfl
theorem QgK {t:Ty} {x:t.den} {v:V} (h:Gs t v=some x) (hv:v.dok1=true):t.dok=true:=by
 cases v with
 | d t' y =>
  have:=EO h
  cases this
  exact hv
 | _=>simp [V.dok1] at hv
theorem QnU:∀ {t:Ty} {x:t.den} {vs:List V},YN t vs=some x→vs.all V.dok1=true→t.dok=true
 | .pair a b,x,vs,h,hv=>by
  simp only [YN] at h
  split at h
  ·rename_i y z hy hz
   have h1:=List.all_eq_true.1 hv
   simp only [Ty.dok,Bool.and_eq_true]
   exact ⟨QnU hy (List.all_eq_true.2 fun c hc=>h1 c (List.mem_of_mem_take hc)),QnU hz (List.all_eq_true.2 fun c hc=>h1 c (List.mem_of_mem_drop hc))⟩
  ·cases h
 | .unit,_,_,_,_=>rfl
 | .int _,_,_,_,_=>rfl
 | .bool,_,_,_,_=>rfl
 | .str,_,_,_,_=>rfl
 | .list t,x,[],h,_=>by simp [YN] at h
 | .list t,x,[v],h,hv=>QgK (t:=.list t) (by simpa [YN] using h) (by simpa using hv)
 | .list t,x,_::_::_,h,_=>by simp [YN] at h
 | .map k e,x,[],h,_=>by simp [YN] at h
 | .map k e,x,[v],h,hv=>QgK (t:=.map k e) (by simpa [YN] using h) (by simpa using hv)
 | .map k e,x,_::_::_,h,_=>by simp [YN] at h
 | .tree a,x,vs,h,hv=>by
  simp only [YN] at h
  split at h
  ·rename_i v k hv' hk
   rw [Option.map_eq_some_iff] at h
   obtain ⟨ks,hks,rfl⟩:=h
   have hm:k∈vs.drop a.cells:=by rw [hk];simp
   have:=QgK hks (List.all_eq_true.1 hv k (List.mem_of_mem_drop hm))
   exact this
  ·cases h
theorem Qzg {t:Ty} {x:t.den} {v:V} (h:Y1 t v=some x) (hv:v.dokV=true):t.dok=true:=by
 cases t with
 | pair a b =>
  cases v<;>first
   | (simp [Y1] at h;done)
   | exact QnU h hv
 | unit=>rfl
 | tree a =>
  cases v<;>first
   | (simp [Y1] at h;done)
   | exact QnU h hv
 | map k e =>
  refine QgK (v:=v) (by simpa [Y1] using h) ?_
  cases v<;>first | exact hv | (simp [Y1,Gs] at h)
 | list t =>
  refine QgK (v:=v) (by simpa [Y1] using h) ?_
  cases v<;>first | exact hv | (simp [Y1,Gs] at h)
 | int k=>rfl
 | bool=>rfl
 | str=>rfl
theorem QAk {P:Program} {g:Nat} {v:V} {k k':Int} {b:V}:∀ {tys:List Ty} {xs:HJ tys} {x:V},QgJ tys [x,.d (.int .i64) k]=some xs→v=.tup [.d (.int .i64) k',b]→QBN P g (Jh tys xs) v →
  JG P g=true∧∀ (w:World) (u:Value) (bs:List Nat),x.dokV=true→Z1 w x u bs→bs.Nodup→inK .i64 k=true →
   Calls P g #[u,.int .i64 k] w fun e w'=>e=.returned (.int .i64 k')∧inK .i64 k'=true∧Z1 w' b u bs∧BelowX bs w w'
 | [],_,_,h,_,_=>by simp [QgJ] at h
 | [_],_,_,h,_,_=>by simp [QgJ] at h
 | _::_::_::_,_,_,h,_,_=>by simp [QgJ] at h
 | [t1,t2],xs,x,h,hv,hA=>by
  simp only [QgJ] at h
  split at h
  case h_2=>cases h
  rename_i x0 z hx0 hz
  cases h
  split at hz
  case h_2=>cases hz
  rename_i k0 q hk0 hq
  cases hz
  have hk:JO t2 k0=.d (.int .i64) k:=by
   cases t2 with
   | pair a b=>simp [Y1] at hk0
   | unit=>simp [Y1] at hk0
   | tree a=>simp [Y1] at hk0
   | int kk=>exact (EO (t:=.int kk) (t':=.int .i64) (y:=k) hk0).symm
   | bool=>exact (EO (t:=.bool) (t':=.int .i64) (y:=k) hk0).symm
   | str=>exact (EO (t:=.str) (t':=.int .i64) (y:=k) hk0).symm
   | list t=>exact (EO (t:=.list t) (t':=.int .i64) (y:=k) hk0).symm
   | map a b=>exact (EO (t:=.map a b) (t':=.int .i64) (y:=k) hk0).symm
  have ha:Jh [t1,t2] (x0,(k0,q))=[JO t1 x0,.d (.int .i64) k]:=by simp only [Jh,hk]
  obtain ⟨h1,h2⟩:=hA (JO t1 x0) k k' b ha hv
  refine ⟨h1,fun w u bs hdk hd hn hik=>?_⟩
  have hdok:=Qzg hx0 hdk
  refine h2 w u bs ?_ (Qjx (QhK hdok hx0 hd)) hn hik
  clear h2 hd hdk hA ha hx0
  have ex:∀ (t:Ty) (x:t.den),t.dok=true→(Qm t x).all V.dok1=true:=by
   intro t
   induction t with
   | int k=>intro x _;rfl
   | bool=>intro x _;rfl
   | str=>intro x _;rfl
   | unit=>intro x _;rfl
   | list t _=>intro x h;simp [Qm,V.dok1,h]
   | map k e _ _=>intro x h;cases h
   | tree a _=>intro x h;cases h
   | pair a b iha ihb =>
    intro x h
    simp only [Ty.dok,Bool.and_eq_true] at h
    simp only [Qm,List.all_append,Bool.and_eq_true]
    exact ⟨iha x.1 h.1,ihb x.2 h.2⟩
  cases t1 with
  | pair a b=>exact ex _ x0 hdok
  | unit=>rfl
  | tree a=>cases hdok
  | map k e=>cases hdok
  | list t=>exact hdok
  | int k=>rfl
  | bool=>rfl
  | str=>rfl
theorem QfJ:Q2≤Q1∧ZH≤Q1∧VY≤Q1:=by
 unfold Q2 ZH VY Q1
 omega
theorem box_le:Q2≤Yc∧ZH≤Yc∧VY≤Yc∧Q1≤Yc:=by
 unfold Q2 ZH VY Q1 Yc
 omega
theorem Qeq:Q2≤Vg∧ZH≤Vg∧VY≤Vg∧Q1≤Vg∧Yc≤Vg:=by
 unfold Q2 ZH VY Q1 Yc Vg
 omega
theorem QaE:Q2≤ZH∧Q2≤VY∧ZH≤VY:=by
 unfold Q2 ZH VY
 omega
theorem QxO {t:Ty} {zs:List t.den} {rest:List V}:∀ {ts:List Ty} {xs:HJ ts},QgJ ts (.d (.list t) zs::rest)=some xs→∃ (_:Unit) (z0:List V),Jh ts xs=.d (.list t) zs::z0 ∧
  ∀ (M:Me) (vals:List Value),rest.length=vals.length→(∀ (i:Nat) c u,rest[i]? = some c→vals[i]? = some u→RelV M c u)→z0.length=vals.length∧∀ (i:Nat) c u,z0[i]? = some c→vals[i]? = some u→RelV M c u
 | [],_,h=>by cases h
 | t1::ts,xs,h=>by
  simp only [QgJ] at h
  split at h
  case h_2=>cases h
  rename_i x y hx hy
  cases h
  refine ⟨(),Jh ts y,?_,fun M vals hl hr=>Qec hy hl hr⟩
  have:JO t1 x=.d (.list t) zs:=by
   cases t1 with
   | pair a b=>simp [Y1] at hx
   | unit=>simp [Y1] at hx
   | tree a=>simp [Y1] at hx
   | int k=>exact (EO (t:=.int k) (t':=.list t) (y:=zs) (show Gs (.int k) (.d (.list t) zs)=some x from hx)).symm
   | bool=>exact (EO (t:=.bool) (t':=.list t) (y:=zs) (show Gs (.bool) (.d (.list t) zs)=some x from hx)).symm
   | str=>exact (EO (t:=.str) (t':=.list t) (y:=zs) (show Gs (.str) (.d (.list t) zs)=some x from hx)).symm
   | list q=>exact (EO (t:=.list q) (t':=.list t) (y:=zs) (show Gs (.list q) (.d (.list t) zs)=some x from hx)).symm
   | map a b=>exact (EO (t:=.map a b) (t':=.list t) (y:=zs) (show Gs (.map a b) (.d (.list t) zs)=some x from hx)).symm
  simp only [Jh,this]
theorem QgL {P:Program} {gl:Nat→Option (List V)} {cs:List Ctr} (h:∀ c∈cs,CtrOkG P gl c) {R:Type}:QlR P gl (R:=R) (QaD cs):=by
 intro g args K r hc
 unfold QaD at hc
 split at hc
 case h_2=>cases hc
 rename_i c hf
 split at hc
 case h_2=>cases hc
 rename_i xs hxs
 split at hc
 case h_2=>cases hc
 rename_i y hy
 obtain ⟨hm,hg⟩:=QuC hf
 subst hg
 refine ⟨_,hc,fun hlt=>?_,fun hge hlt t ys hv=>?_,fun hge hlt=>?_,fun hge hlt x k k' b ha hv=>?_,fun hge hlt t ys hv=>?_,fun hge hlt rt outs hv=>?_,fun hge t zs ys rest ha hv=>?_⟩
 ·obtain ⟨a1,a2,a3⟩:=(h c hm xs y hy).1 hlt
  refine ⟨a1,a2,fun M w vals hG hF hl hr=>?_⟩
  obtain ⟨k1,k2⟩:=Qec hxs hl hr
  exact a3 M w vals hG hF k1 k2
 ·obtain ⟨a1,a3⟩:=(h c hm xs y hy).2.1 hge hlt t ys hv
  refine ⟨a1,fun M w vals hG hF hl hr=>?_⟩
  obtain ⟨k1,k2⟩:=Qec hxs hl hr
  exact a3 M w vals hG hF k1 k2
 ·obtain ⟨a1,a3⟩:=(h c hm xs y hy).2.2.1 hge hlt
  refine ⟨a1,fun M w vals hG hF hl hr=>?_⟩
  obtain ⟨k1,k2⟩:=Qec hxs hl hr
  exact a3 M w vals hG hF k1 k2
 ·subst ha;exact QAk hxs hv ((h c hm xs y hy).2.2.2.1 hge hlt)
 ·obtain ⟨a1,a3⟩:=(h c hm xs y hy).2.2.2.2.1 hge hlt t ys hv
  refine ⟨a1,fun M w vals u n o hG hF hl hr=>?_⟩
  obtain ⟨k1,k2⟩:=Qec hxs hl hr
  exact a3 M w vals u n o hG hF k1 k2
 ·obtain ⟨a1,a3⟩:=(h c hm xs y hy).2.2.2.2.2.1 hge hlt rt outs hv
  refine ⟨a1,fun M w vals bs o hG hF hl hol hr hbn hbx=>?_⟩
  obtain ⟨k1,k2⟩:=QwI hxs
  refine a3 M w vals bs o hG hF (k1.trans hl) hol (fun j c u hc hu=>?_) hbn (fun j b c hb hc=>?_)
  ·obtain ⟨t,x,v,e1,e2,e3⟩:=k2 j c hc
   subst e1
   exact Uh (UJ e3 (hr j v u e2 hu))
  ·obtain ⟨t,x,v,e1,e2,e3⟩:=k2 _ c hc
   subst e1
   obtain ⟨T,arr,p1,p2,p3⟩:=hbx j b v hb e2
   exact ⟨T,arr,p1,p2,QuD e3 p3⟩
 ·subst ha
  obtain ⟨x0,z0,h5,h6⟩:=QxO hxs
  obtain ⟨a1,a3⟩:=(h c hm xs y hy).2.2.2.2.2.2 hge t zs ys z0 h5 hv
  refine ⟨a1,fun M w u vals o hG hF hl hr=>?_⟩
  obtain ⟨k1,k2⟩:=h6 M vals hl hr
  exact a3 M w u vals o hG hF k1 k2
theorem Qk {P:Program} {gl:Nat→Option (List V)}:∀ c∈([]:List Ctr),CtrOkG P gl c:=fun c h=>by cases h
theorem Qc {P:Program} {gl:Nat→Option (List V)} {c:Ctr} {cs:List Ctr} (h:CtrOkG P gl c) (hs:∀ c∈cs,CtrOkG P gl c):∀ x∈c::cs,CtrOkG P gl x:=by
 intro x hx
 rcases List.mem_cons.1 hx with rfl | hx
 ·exact h
 ·exact hs x hx
theorem HR:∀ (t:Ty) (x:t.den),∀ c∈Qm t x,∃ (t':Ty) (x':t'.den),c=.d t' x'
 | .pair a b,x,c,hc=>by
  rcases List.mem_append.1 hc with hc | hc
  ·exact HR a x.1 c hc
  ·exact HR b x.2 c hc
 | .unit,_,c,hc=>by cases hc
 | .int k,x,c,hc=>by rw [List.mem_singleton.1 hc];exact ⟨_,_,rfl⟩
 | .bool,x,c,hc=>by rw [List.mem_singleton.1 hc];exact ⟨_,_,rfl⟩
 | .str,x,c,hc=>by rw [List.mem_singleton.1 hc];exact ⟨_,_,rfl⟩
 | .list t,x,c,hc=>by rw [List.mem_singleton.1 hc];exact ⟨_,_,rfl⟩
 | .map k e,x,c,hc=>by rw [List.mem_singleton.1 hc];exact ⟨_,_,rfl⟩
 | .tree a,x,c,hc=>by
  rcases List.mem_append.1 hc with hc | hc
  ·exact HR a x.val c hc
  ·rw [List.mem_singleton.1 hc];exact ⟨_,_,rfl⟩
theorem d_F {M M':Me} (hF:M'.F=M.F) {t:Ty} {x:t.den} {u:Value} (h:RelV M (.d t x) u):RelV M' (.d t x) u:=by
 cases h with
 | d _ _ _ hd=>exact .d _ _ _ (by rw [hF];exact hd)
theorem QgM {M M':Me} (hF:M'.F=M.F) {t:Ty} {x:t.den} {u:Value} (h:RelV M (JO t x) u):RelV M' (JO t x) u:=by
 have agg:∀ cs,(∀ c∈cs,∃ (t':Ty) (x':t'.den),c=.d t' x')→RelV M (.agg cs) u→RelV M' (.agg cs) u:=by
  intro cs hcs h
  cases h with
  | agg _ arr hl hr h1 =>
   refine .agg _ arr hl (fun i c u hc hu=>?_) h1
   obtain ⟨t',x',rfl⟩:=hcs c (List.mem_of_getElem? hc)
   exact d_F hF (hr i _ u hc hu)
 cases t with
 | pair a b=>exact agg _ (HR (.pair a b) x) h
 | unit=>exact agg _ (fun c hc=>by cases hc) h
 | int k=>exact d_F hF h
 | bool=>exact d_F hF h
 | str=>exact d_F hF h
 | list t=>exact d_F hF h
 | map k e=>exact d_F hF h
 | tree a=>exact agg _ (HR (.tree a) x) h
theorem Hg:∀ (ts:List Ty) (xs:HJ ts),∀ c∈Jh ts xs,∃ (t:Ty) (x:t.den),c=JO t x
 | [],_,c,hc=>by cases hc
 | t::ts,x,c,hc=>by
  rcases List.mem_cons.1 hc with rfl | hc
  ·exact ⟨t,x.1,rfl⟩
  ·exact Hg ts x.2 c hc
theorem QmL {P:Program} {gl:Nat→Option (List V)} {c:Ctr} (hlt:Nat.blt c.g Q2=true) {fn:Func} {code:Code} (hf:P.funcs[c.g]? = some fn) (hb:fn.body=some code) (he:JG P c.g=true) (hres:c.rets.length=fn.results.size) {A:List (List Nat × Ann)} {I:List (List Nat × Nat)} {cs:List Ctr}
  (hcs:∀ x∈cs,CtrOkG P gl x) (hrun:∀ xs y,c.f xs=some y→∃ n,Qpf P gl A I (QaD cs) fn code (QyS P fn (Qjo c.rets)) n (Jh c.tys xs)=some y):CtrOkG P gl c:=by
 intro xs y hy
 obtain ⟨n,hn⟩:=hrun xs y hy
 have hlt:=US hlt
 have hnl:∀ {m:Nat},Q2≤m→m≤c.g→False:=fun h1 h2=>Nat.lt_irrefl _ (Nat.lt_of_lt_of_le hlt (Nat.le_trans h1 h2))
 refine ⟨fun _=>?_,fun hge=>(hnl (Nat.le_refl _) hge).elim,fun hge=>(hnl QaE.1 hge).elim,fun hge _=>(hnl QaE.2.1 hge).elim,fun hge _=>(hnl QfJ.1 hge).elim,fun hge _=>(hnl box_le.1 hge).elim,fun hge=>(hnl Qeq.1 hge).elim⟩
 refine ⟨he,fun n=>QsR n _ _,fun M w vals hG hF hl hr=>?_⟩
 refine (QuA hf hb (QgL hcs) hres hn (F:=M.F) hG hF hl ?_ (QgI 0 _ _)).mono fun e w' ⟨u,F',h1,h2,h3,h4,h5⟩=>⟨u,F',h1,h2,h3,h4,h5 _ (Snap.le.refl _)⟩
 intro i c' u hc hu M' hM'
 obtain ⟨t,x,rfl⟩:=Hg _ _ c' (List.mem_of_getElem? hc)
 exact QgM hM' (hr i _ u hc hu)
def QlT (g:Nat) (tys:List Ty) (t:Ty) (f:HJ tys→Option (List t.den)):Ctr:=⟨g+Q2,tys,[.list t],f⟩
theorem QxP {P:Program} {gl:Nat→Option (List V)} {g:Nat} {tys:List Ty} {t:Ty} {f:HJ tys→Option (List t.den)} (hlt:Nat.blt g Q2=true) {fn:Func} {code:Code} (hf:P.funcs[g]? = some fn) (hb:fn.body=some code) (he:JG P g=true) {A:List (List Nat × Ann)} {I:List (List Nat × Nat)} {cs:List Ctr}
  (hcs:∀ x∈cs,CtrOkG P gl x) (hrun:∀ xs y,f xs=some y→∃ n,Qpf P gl A I (QaD cs) fn code (QhG P fn t) n (Jh tys xs)=some y):CtrOkG P gl (QlT g tys t f):=by
 intro xs y hy
 obtain ⟨n,hn⟩:=hrun xs y hy
 have hm:=(QgG (US hlt)).1
 refine ⟨fun hlt=>absurd hlt (Nat.not_lt.2 (Nat.le_add_left _ _)),fun _ _ t' ys hv=>?_,fun h1=>(Nat.lt_irrefl _ (Nat.lt_of_lt_of_le hm h1)).elim,fun h1 _=>(Nat.lt_irrefl _ (Nat.lt_of_lt_of_le hm (Nat.le_trans QaE.2.2 h1))).elim,fun h1 _=>(Nat.lt_irrefl _ (Nat.lt_of_lt_of_le hm (Nat.le_trans QfJ.2.1 h1))).elim,fun h1 _=>(Nat.lt_irrefl _ (Nat.lt_of_lt_of_le hm (Nat.le_trans box_le.2.1 h1))).elim,fun h1=>(Nat.lt_irrefl _ (Nat.lt_of_lt_of_le hm (Nat.le_trans Qeq.2.1 h1))).elim⟩
 have hv:V.d (.list t) y=.d (.list t') ys:=hv
 cases hv
 refine ⟨by rw [show (QlT g tys t f).g - Q2=g from Nat.add_sub_cancel _ _];exact he,fun M w vals hG hF hl hr=>?_⟩
 rw [show (QlT g tys t f).g - Q2=g from Nat.add_sub_cancel _ _]
 refine Qzd hf hb (QgL hcs) hn (F:=M.F) hG hF hl ?_ (QgI 0 _ _)
 intro i c' u hc hu M' hM'
 obtain ⟨t,x,rfl⟩:=Hg _ _ c' (List.mem_of_getElem? hc)
 exact QgM hM' (hr i _ u hc hu)
def Ek (g:Nat) (tys rets:List Ty) (f:HJ tys→Option (Wf rets)):Ctr:=⟨g+ZH,tys,rets,f⟩
theorem QqI {P:Program} {gl:Nat→Option (List V)} {g:Nat} {tys rets:List Ty} {f:HJ tys→Option (Wf rets)} (hlt:Nat.blt g Q2=true) {fn:Func} {code:Code} (hf:P.funcs[g]? = some fn) (hb:fn.body=some code) (he:JG P g=true) {A:List (List Nat × Ann)} {I:List (List Nat × Nat)} {cs:List Ctr}
  (hcs:∀ x∈cs,CtrOkG P gl x) (hrun:∀ xs y,f xs=some y→∃ n,Qpf P gl A I (QaD cs) fn code (QtI P fn rets) n (Jh tys xs)=some y):CtrOkG P gl (Ek g tys rets f):=by
 intro xs y hy
 obtain ⟨n,hn⟩:=hrun xs y hy
 obtain ⟨m1,m2⟩:=QgG (US hlt)
 have hg:(Ek g tys rets f).g=g+ZH:=rfl
 have hge:ZH≤g+ZH:=Nat.le_add_left _ _
 rw [hg]
 refine ⟨fun h1=>(Nat.lt_irrefl _ (Nat.lt_of_lt_of_le h1 (Nat.le_trans QaE.1 hge))).elim,fun _ h1=>(Nat.lt_irrefl _ (Nat.lt_of_lt_of_le h1 hge)).elim,fun _ _=>?_,fun h1 _=>(Nat.lt_irrefl _ (Nat.lt_of_lt_of_le m2 h1)).elim,fun h1 _=>(Nat.lt_irrefl _ (Nat.lt_of_lt_of_le m2 (Nat.le_trans QfJ.2.2 h1))).elim,fun h1 _=>(Nat.lt_irrefl _ (Nat.lt_of_lt_of_le m2 (Nat.le_trans box_le.2.2.1 h1))).elim,fun h1=>(Nat.lt_irrefl _ (Nat.lt_of_lt_of_le m2 (Nat.le_trans Qeq.2.2.1 h1))).elim⟩
 rw [Nat.add_sub_cancel]
 refine ⟨he,fun M w vals hG hF hl hr=>?_⟩
 refine QxM hf hb (QgL hcs) hn (F:=M.F) hG hF hl ?_ (QgI 0 _ _)
 intro i c' u hc hu M' hM'
 obtain ⟨t,x,rfl⟩:=Hg _ _ c' (List.mem_of_getElem? hc)
 exact QgM hM' (hr i _ u hc hu)
theorem QjF {P:Program} {gl:Nat→Option (List V)} {g:Nat} {tys:List Ty} {t:Ty} {f:HJ tys→Option (List t.den)} (hlt:Nat.blt g Q2=true) (ht:t.flat=true) (h:CtrOkG P gl (QlT g tys t f)):CtrOkG P gl (Ek g tys [.list t] f):=by
 intro xs y hy
 obtain ⟨m1,m2⟩:=QgG (US hlt)
 have hg:(Ek g tys [.list t] f).g=g+ZH:=rfl
 have hge:ZH≤g+ZH:=Nat.le_add_left _ _
 rw [hg]
 refine ⟨fun h1=>(Nat.lt_irrefl _ (Nat.lt_of_lt_of_le h1 (Nat.le_trans QaE.1 hge))).elim,fun _ h1=>(Nat.lt_irrefl _ (Nat.lt_of_lt_of_le h1 hge)).elim,fun _ _=>?_,fun h1 _=>(Nat.lt_irrefl _ (Nat.lt_of_lt_of_le m2 h1)).elim,fun h1 _=>(Nat.lt_irrefl _ (Nat.lt_of_lt_of_le m2 (Nat.le_trans QfJ.2.2 h1))).elim,fun h1 _=>(Nat.lt_irrefl _ (Nat.lt_of_lt_of_le m2 (Nat.le_trans box_le.2.2.1 h1))).elim,fun h1=>(Nat.lt_irrefl _ (Nat.lt_of_lt_of_le m2 (Nat.le_trans Qeq.2.2.1 h1))).elim⟩
 rw [Nat.add_sub_cancel]
 have h0:=(h xs y hy).2.1 (Nat.le_add_left _ _) m1 t y rfl
 rw [show (QlT g tys t f).g - Q2=g from Nat.add_sub_cancel _ _] at h0
 obtain ⟨he,h0⟩:=h0
 refine ⟨he,fun M w vals hG hF hl hr=>(h0 M w vals hG hF hl hr).mono fun e w'=>?_⟩
 rintro ⟨u,F',o,rfl,q1,q2,q3,q4,q5,q6⟩
 obtain ⟨bs,k1,k2,k3⟩:=QAi (n0:=w.heap.size) (w':=w') ht q4 q5 (fun ad v hv=>by
  rcases q2 ad v hv with h1 | h1
  ·exact (hF ad v h1).block (q3.block _ (hF ad v h1).lt)
  ·exact h1.1) q6
 exact ⟨u,bs,rfl,q3,k1,k2,k3⟩
def QwJ (g:Nat) (t:Ty) (f:HJ [t,.int .i64]→Option (Wf [.int .i64,t])):Ctr:=⟨g+VY,[t,.int .i64],[.int .i64,t],f⟩
end Go.Ab
