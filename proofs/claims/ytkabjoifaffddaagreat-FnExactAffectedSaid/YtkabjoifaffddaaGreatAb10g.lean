import Derived.Test.YtkabjoifaffddaaGreatAb10f
namespace Go.Ab
noncomputable section
variable {R:Type}
section
variable {P:Program} {base:Base} {w0:Orig} {dp nn:Nat} {st:St} {θ:Nat→Nat→Value} {M M':Me} {a:Act} {w w':World}
open Classical in
def Me.lend (M:Me) (w:World):Snap:=fun ad=>match M.F ad with
 | some u=>some u
 | none=>if M.mine ad.block∧ad.spot=none then w.cell? ad else none
theorem QrQ:M.F.le (M.lend w):=by
 intro ad u hu
 unfold Me.lend
 rw [hu]
theorem Qpt (hF:∀ a u,M.F a=some u→Sees w a u):∀ a u,M.lend w a=some u→Sees w a u:=by
 intro ad u hu
 unfold Me.lend at hu
 split at hu
 ·rename_i u' h;cases hu;exact hF ad _ h
 ·split at hu
  ·rename_i h;exact .of h.2 hu
  ·cases hu
theorem Qxt (n:Nat):M.le n { M with F:=M.lend w }:=⟨QrQ,fun _ _ _ _ h=>h,Nat.le_refl _,fun _ _ _ h=>h,.refl _⟩
theorem QAU {dr:Nat→Option RBox} {nd:Nat} (h:DpInv base dr nd M w) (hst:st.dr=dr) (n:Nat):∀ (v:V) (u:Value),RelV M v u→v.le n=true→RelV { M with F:=M.lend w } (st.res v) u:=by
 intro v
 apply V.rec (motive_1:=fun v=>∀ (u:Value),RelV M v u→v.le n=true→RelV { M with F:=M.lend w } (st.res v) u)
  (motive_2:=fun cs=>∀ (us:List Value),(∀ (i:Nat) c u,cs[i]? = some c→us[i]? = some u→RelV M c u)→V.le.leL n cs=true→(St.res.resL st cs).length=cs.length∧∀ (i:Nat) c u,(St.res.resL st cs)[i]? = some c→us[i]? = some u→RelV { M with F:=M.lend w } c u) (t:=v)
 case agg =>
  intro cs ih u hr hle
  cases hr with
  | agg _ arr hl ha h1 =>
   obtain ⟨k1,k2⟩:=ih arr.toList (fun i c u hc hu=>ha i c u hc (by simpa using hu)) hle
   exact .agg _ arr (by rw [k1];exact hl) (fun i c u hc hu=>k2 i c u hc (by simpa using hu)) h1
 case tup =>
  intro cs ih u hr hle
  cases hr with
  | tup _ arr hl ha =>
   obtain ⟨k1,k2⟩:=ih arr.toList (fun i c u hc hu=>ha i c u hc (by simpa using hu)) hle
   exact .tup _ arr (by rw [k1];exact hl) (fun i c u hc hu=>k2 i c u hc (by simpa using hu))
 case dr =>
  intro k u hr _
  simp only [St.res]
  split
  ·rename_i t xs hk
   rw [hst] at hk
   obtain ⟨u',bs,h1,h2⟩:=h.has k _ hk
   obtain rfl:=hr.dr_inv.2 u' bs h1
   refine .d _ _ _ (h2.data fun c hc o v hv=>?_)
   have hm:M.mine c:=⟨k,u,bs,h1,hc⟩
   show M.lend w ⟨c,o,none⟩=some v
   have hFn:M.F ⟨c,o,none⟩=none:=h.F hm rfl
   unfold Me.lend
   rw [hFn]
   simp only
   rw [if_pos ⟨hm,rfl⟩]
   exact hv
  ·exact .any _
 case nil=>intro us _ _;exact ⟨rfl,fun i c u hc=>by simp [St.res.resL] at hc⟩
 case cons =>
  intro c cs ih1 ih2 us hr hle
  simp only [V.le.leL,Bool.and_eq_true] at hle
  cases us with
  | nil =>
   refine ⟨?_,fun i c u _ hu=>by simp at hu⟩
   have:=(ih2 [] (fun i c u _ hu=>by simp at hu) hle.2).1
   simp [St.res.resL,this]
  | cons u us =>
   obtain ⟨k1,k2⟩:=ih2 us (fun i c u hc hu=>hr (i+1) c u (by simpa using hc) (by simpa using hu)) hle.2
   refine ⟨by simp [St.res.resL,k1],fun i c' u' hc hu=>?_⟩
   cases i with
   | zero =>
    simp only [St.res.resL,List.getElem?_cons_zero,Option.some.injEq] at hc hu
    subst hc;subst hu
    exact ih1 _ (hr 0 _ _ rfl rfl) hle.1
   | succ i=>exact k2 i c' u' (by simpa [St.res.resL] using hc) (by simpa using hu)
 all_goals
  intros
  rename_i hr hle
  exact hr.mono (Qxt n) hle
theorem QnJ {dr:Nat→Option RBox} {nd:Nat} (h:DpInv base dr nd M w) (hst:st.dr=dr) (n:Nat):∀ (cs:List V) (us:List Value),cs.length=us.length→(∀ (i:Nat) c u,cs[i]? = some c→us[i]? = some u→RelV M c u)→V.le.leL n cs=true →
  (St.res.resL st cs).length=us.length∧∀ (i:Nat) c u,(St.res.resL st cs)[i]? = some c→us[i]? = some u→RelV { M with F:=M.lend w } c u
 | [],[],_,_,_=>⟨rfl,fun i c u hc=>by simp [St.res.resL] at hc⟩
 | [],_::_,hl,_,_=>by simp at hl
 | _::_,[],hl,_,_=>by simp at hl
 | c::cs,u::us,hl,hr,hle=>by
  simp only [V.le.leL,Bool.and_eq_true] at hle
  obtain ⟨k1,k2⟩:=QnJ h hst n cs us (by simpa using hl) (fun i c u hc hu=>hr (i+1) c u (by simpa using hc) (by simpa using hu)) hle.2
  refine ⟨by simp [St.res.resL,k1],fun i c' u' hc hu=>?_⟩
  cases i with
  | zero =>
   simp only [St.res.resL,List.getElem?_cons_zero,Option.some.injEq] at hc hu
   subst hc;subst hu
   exact QAU h hst n _ _ (hr 0 _ _ rfl rfl) hle.1
  | succ i=>exact k2 i c' u' (by simpa [St.res.resL] using hc) (by simpa using hu)
theorem QBr {st st':St} (h:st.dr=st'.dr) (v:V):st.res v=st'.res v:=by
 apply V.rec (motive_1:=fun v=>st.res v=st'.res v) (motive_2:=fun cs=>St.res.resL st cs=St.res.resL st' cs) (t:=v)
 case agg=>intro cs ih;simp only [St.res,ih]
 case tup=>intro cs ih;simp only [St.res,ih]
 case dr=>intro k;simp only [St.res,h]
 case nil=>rfl
 case cons=>intro c cs h1 h2;simp only [St.res.resL,h1,h2]
 all_goals intros;rfl
theorem Qys {st st':St} (h:st.dr=st'.dr):∀ cs:List V,St.res.resL st cs=St.res.resL st' cs
 | []=>rfl
 | c::cs=>by simp only [St.res.resL,QBr h c,Qys h cs]
theorem QAV {v:V} {u:Value} (hv:v.scl=true) (h:RelV M v u):RelV M' v u:=by
 cases v with
 | d t x =>
  cases h with
  | d _ _ _ hd =>
   cases t with
   | int k=>exact .d _ _ _ hd
   | bool=>exact .d _ _ _ hd
   | str=>exact .d _ _ _ hd
   | _=>simp [V.scl] at hv
 | _=>simp [V.scl] at hv
structure BelowX (bs:List Nat) (w w':World):Prop where
 os:w'.os=w.os
 tape:w'.tape=w.tape
 output:w'.output=w.output
 size:w.heap.size≤w'.heap.size
 block:∀ c,c<w.heap.size→c∉bs→w'.heap[c]? = w.heap[c]?
 drawn:w.drawn≤w'.drawn
theorem QyW {u:Value}:∀ (a b:V) (st st':St) (u:Value) (bs:List Nat),Qay a b st=some st'→Z1 w' b u bs→RelV M a u→a.drs.Nodup →
  ∃ L:List (Nat × Value × List Nat),L.map (·.1)=a.drs∧bs=(L.map (·.2.2)).flatten∧(∀ k u bk,(k,u,bk)∈L→(∃ t xs,st'.dr k=some ⟨t,xs⟩∧DeepD w' (.list t) xs [u] bk)∧k<M.D.N∧∀ u' bs',M.D.δ k=some (u',bs')→u=u')∧(∀ q,q∉a.drs→st'.dr q=st.dr q)∧st'={ st with dr:=st'.dr }:=by
 intro a
 apply V.rec (motive_1:=fun a=>∀ (b:V) (st st':St) (u:Value) (bs:List Nat),Qay a b st=some st'→Z1 w' b u bs→RelV M a u→a.drs.Nodup →
   ∃ L:List (Nat × Value × List Nat),L.map (·.1)=a.drs∧bs=(L.map (·.2.2)).flatten∧(∀ k u bk,(k,u,bk)∈L→(∃ t xs,st'.dr k=some ⟨t,xs⟩∧DeepD w' (.list t) xs [u] bk)∧k<M.D.N∧∀ u' bs',M.D.δ k=some (u',bs')→u=u')∧(∀ q,q∉a.drs→st'.dr q=st.dr q)∧st'={ st with dr:=st'.dr })
  (motive_2:=fun cs=>∀ (ds:List V) (st st':St) (us:List Value) (bs:List Nat),Qay.hotL cs ds st=some st'→Z1.DeepVL w' ds us bs→(∀ (i:Nat) c u,cs[i]? = some c→us[i]? = some u→RelV M c u)→(V.drs.drsL cs).Nodup →
   ∃ L:List (Nat × Value × List Nat),L.map (·.1)=V.drs.drsL cs∧bs=(L.map (·.2.2)).flatten∧(∀ k u bk,(k,u,bk)∈L→(∃ t xs,st'.dr k=some ⟨t,xs⟩∧DeepD w' (.list t) xs [u] bk)∧k<M.D.N∧∀ u' bs',M.D.δ k=some (u',bs')→u=u')∧(∀ q,q∉V.drs.drsL cs→st'.dr q=st.dr q)∧st'={ st with dr:=st'.dr }) (t:=a)
 case dr =>
  intro k b st st' u bs hs hd hr _
  unfold Qay at hs
  cases b with
  | d t x =>
   cases t with
   | list t =>
    simp only at hs
    split at hs
    case h_2=>cases hs
    split at hs
    case h_2=>cases hs
    cases hs
    refine ⟨[(k,u,bs)],rfl,by simp,fun k' u' bk hm=>?_,fun q hq=>?_,rfl⟩
    ·simp only [List.mem_singleton,Prod.mk.injEq] at hm
     obtain ⟨rfl,rfl,rfl⟩:=hm
     exact ⟨⟨t,x,by simp only [St.setD];rw [Ya],hd⟩,hr.dr_inv.1,hr.dr_inv.2⟩
    ·simp only [V.drs,List.mem_singleton] at hq
     simp only [St.setD]
     rw [Zi _ _ _ _ hq]
   | _=>simp at hs
  | _=>simp at hs
 case d =>
  intro t x b st st' u bs hs hd _ _
  unfold Qay at hs
  obtain ⟨hb,hs⟩:=Qn hs
  cases hs
  refine ⟨[],rfl,?_,fun k u bk hm=>(by cases hm),fun q _=>rfl,rfl⟩
  cases b with
  | d t x =>
   cases t with
   | int k=>exact hd.2
   | bool=>exact hd.2
   | str=>exact hd.2
   | _=>simp [V.scl] at hb
  | _=>simp [V.scl] at hb
 case agg =>
  intro cs ih b st st' u bs hs hd hr hn
  unfold Qay at hs
  cases b with
  | agg ds =>
   obtain ⟨arr,rfl,hd⟩:=hd
   cases hr with
   | agg _ arr' hl ha h1=>exact ih ds st st' arr.toList bs hs hd (fun i c u hc hu=>ha i c u hc (by simpa using hu)) hn
  | _=>simp at hs
 case nil =>
  intro ds st st' us bs hs hd _ _
  cases ds with
  | nil =>
   unfold Qay.hotL at hs
   cases hs
   obtain ⟨rfl,rfl⟩:=hd
   exact ⟨[],rfl,rfl,fun k u bk hm=>(by cases hm),fun q _=>rfl,rfl⟩
  | cons d ds=>simp [Qay.hotL] at hs
 case cons =>
  intro c cs ih1 ih2 ds st st' us bs hs hd hr hn
  cases ds with
  | nil=>simp [Qay.hotL] at hs
  | cons d ds =>
   obtain ⟨u,us',b1,b2,rfl,rfl,hd1,hd2⟩:=hd
   unfold Qay.hotL at hs
   obtain ⟨st1,hs1,hs2⟩:=Option.bind_eq_some_iff.1 hs
   simp only [V.drs.drsL] at hn ⊢
   obtain ⟨n1,n2,n3⟩:=List.nodup_append.1 hn
   obtain ⟨L1,p1,p2,p3,p4,p5⟩:=ih1 d st st1 u b1 hs1 hd1 (hr 0 _ _ rfl rfl) n1
   obtain ⟨L2,q1,q2,q3,q4,q5⟩:=ih2 ds st1 st' us' b2 hs2 hd2 (fun i c u hc hu=>hr (i+1) c u (by simpa using hc) (by simpa using hu)) n2
   refine ⟨L1++L2,by rw [List.map_append,p1,q1],by rw [List.map_append,List.flatten_append,← p2,← q2],fun k u bk hm=>?_,fun q hq=>?_,?_⟩
   ·rcases List.mem_append.1 hm with hm | hm
    ·obtain ⟨⟨t,xs,e1,e2⟩,e3⟩:=p3 k u bk hm
     have hk:k∈c.drs:=by rw [← p1];exact List.mem_map.2 ⟨_,hm,rfl⟩
     exact ⟨⟨t,xs,by rw [q4 k (fun h=>n3 k hk k h rfl)];exact e1,e2⟩,e3⟩
    ·exact q3 k u bk hm
   ·rw [q4 q (fun h=>hq (List.mem_append_right _ h)),p4 q (fun h=>hq (List.mem_append_left _ h))]
   ·rw [q5];rw [p5]
 all_goals
  intros
  rename_i hs _ _ _
  simp [Qay] at hs
theorem QmC {α:Type}:∀ {l:List (List α)} {x:List α},l.flatten.Nodup→x∈l→x.Nodup
 | [],_,_,h=>by cases h
 | y::l,x,hn,h=>by
  rw [List.flatten_cons] at hn
  obtain ⟨h1,h2,_⟩:=List.nodup_append.1 hn
  rcases List.mem_cons.1 h with rfl | h
  ·exact h1
  ·exact QmC h2 h
theorem Qwn {c:Nat}:∀ {L:List (Nat × Value × List Nat)} {k k':Nat} {u u':Value} {b b':List Nat},((L.map (·.2.2)).flatten).Nodup→(k,u,b)∈L→(k',u',b')∈L→c∈b→c∈b'→(k,u,b)=(k',u',b')
 | [],_,_,_,_,_,_,_,h,_,_,_=>by cases h
 | (q,v,bb)::L,k,k',u,u',b,b',hn,h,h',hc,hc'=>by
  simp only [List.map_cons,List.flatten_cons] at hn
  obtain ⟨h1,h2,h3⟩:=List.nodup_append.1 hn
  have mem:∀ {k u b},(k,u,b)∈L→c∈b→c∈(L.map (·.2.2)).flatten:=fun hm hc=>List.mem_flatten.2 ⟨_,List.mem_map.2 ⟨_,hm,rfl⟩,hc⟩
  rcases List.mem_cons.1 h with e | h<;>rcases List.mem_cons.1 h' with e' | h'
  ·rw [e,e']
  ·cases e;exact (h3 c hc c (mem h' hc') rfl).elim
  ·cases e';exact (h3 c hc' c (mem h hc) rfl).elim
  ·exact Qwn h2 h h' hc hc'
open Classical in
theorem Qvv (h:Rel P base w0 dp st θ M w) {a b:V} {u:Value} (ha:RelV M a u) (hok:V.hotOk st a=true) {st':St} (hs:Qay a b st=some st') (hd:Z1 w' b u (M.blk a.drs)) (hbx:BelowX (M.blk a.drs) w w') :
  ∃ M',M.le dp M'∧Rel P base w0 dp st' θ M' w':=by
 unfold V.hotOk at hok
 simp only [Bool.and_eq_true,List.all_eq_true] at hok
 obtain ⟨⟨⟨_,hn⟩,halive⟩,_⟩:=hok
 have hn:=EZ.1 hn
 obtain ⟨L,l1,l2,l3,l4,l5⟩:=QyW (u:=u) a b st st' u _ hs hd ha hn
 have hbn:=h.dpi.blk_nodup hn
 rw [l2] at hbn
 have hLn:(L.map (·.1)).Nodup:=by rw [l1];exact hn
 let f:Nat→Option (Value × List Nat):=fun q=>if hq:∃ p:Value × List Nat,(q,p.1,p.2)∈L then some hq.choose else M.D.δ q
 have hf:∀ {q:Nat} {u':Value} {bs':List Nat},f q=some (u',bs')→(q∈a.drs∧(q,u',bs')∈L)∨(q∉a.drs∧M.D.δ q=some (u',bs')):=by
  intro q u' bs' hq
  simp only [f] at hq
  split at hq
  ·rename_i hx
   have:=hx.choose_spec
   rw [Option.some.inj hq] at this
   exact .inl ⟨by rw [← l1];exact List.mem_map.2 ⟨_,this,rfl⟩,this⟩
  ·rename_i hx
   refine .inr ⟨fun hm=>hx ?_,hq⟩
   rw [← l1] at hm
   obtain ⟨⟨q',u2,b2⟩,hm2,rfl⟩:=List.mem_map.1 hm
   exact ⟨(u2,b2),hm2⟩
 have hf1:∀ {q:Nat} {u':Value} {bs':List Nat},(q,u',bs')∈L→f q=some (u',bs'):=by
  intro q u' bs' hm
  have hx:∃ p:Value × List Nat,(q,p.1,p.2)∈L:=⟨(u',bs'),hm⟩
  have e:f q=some hx.choose:=dif_pos hx
  rw [e]
  have hsp:=hx.choose_spec
  have inj:∀ {L:List (Nat × Value × List Nat)},(L.map (·.1)).Nodup→∀ {p p'},p∈L→p'∈L→p.1=p'.1→p=p':=by
   intro L
   induction L with
   | nil=>intro _ p p' h;cases h
   | cons z L ih =>
    intro hn p p' hp hp' e
    simp only [List.map_cons] at hn
    obtain ⟨n1,n2⟩:=List.nodup_cons.1 hn
    rcases List.mem_cons.1 hp with e1 | h1<;>rcases List.mem_cons.1 hp' with e2 | h2
    ·rw [e1,e2]
    ·subst e1;exact (n1 (List.mem_map.2 ⟨_,h2,e.symm⟩)).elim
    ·subst e2;exact (n1 (List.mem_map.2 ⟨_,h1,e⟩)).elim
    ·exact ih n2 h1 h2 e
  have:=inj hLn hsp hm rfl
  simp only [Prod.mk.injEq,true_and] at this
  rw [show hx.choose=(u',bs') from Prod.ext this.1 this.2]
 have hf2:∀ {q:Nat},q∉a.drs→f q=M.D.δ q:=by
  intro q hq
  simp only [f]
  rw [dif_neg]
  rintro ⟨p,hm⟩
  exact hq (by rw [← l1];exact List.mem_map.2 ⟨_,hm,rfl⟩)
 have hin:∀ {q:Nat} {u':Value} {bs':List Nat} {c:Nat},(q,u',bs')∈L→c∈bs'→c∈M.blk a.drs:=by
  intro q u' bs' c hm hc
  rw [l2]
  exact List.mem_flatten.2 ⟨_,List.mem_map.2 ⟨_,hm,rfl⟩,hc⟩
 have hle:M.D.le ⟨f,M.D.N⟩:=by
  refine ⟨Nat.le_refl _,fun q u' bs' hlt hq=>?_⟩
  rcases hf hq with ⟨hq',hm⟩ | ⟨_,hq⟩
  ·have hal:=halive q hq'
   obtain ⟨b',hb'⟩:=Option.isSome_iff_exists.1 hal
   obtain ⟨u2,bs2,e1,_⟩:=h.dpi.has q b' hb'
   have:=(l3 q u' bs' hm).2.2 u2 bs2 e1
   subst this
   exact ⟨_,e1⟩
  ·exact ⟨_,hq⟩
 have hstep:∀ c,c<w.heap.size→c∉M.blk a.drs→w'.heap[c]? = w.heap[c]?:=fun c hc hb=>hbx.block c hc hb
 have hbase:∀ c∈M.blk a.drs,Own base c:=fun c hc=>h.dpi.le (Qjy hc)
 have hbelow:BelowB base w0.w w':=h.below.trans ⟨hbx.os,hbx.tape,hbx.output,hbx.size,fun c hc=>hstep c (Nat.lt_of_lt_of_le (Nat.lt_of_not_le fun e=>hc (.inl e)) h.hb) fun hm=>hc (hbase c hm),hbx.drawn⟩
 refine ⟨{ M with D:=⟨f,M.D.N⟩ },⟨.refl _,fun _ _ _ _ h=>h,Nat.le_refl _,fun _ _ _ h=>h,hle⟩,?_⟩
 have hrel:=h.newD (w':=w') (D':=⟨f,M.D.N⟩) (dr':=st'.dr) (nd':=st.nd) hle hbx.size (fun c hc hlt=>hstep c hlt fun hm=>hc (Qjy hm)) hbelow ?_
 ·rw [l5];exact hrel
 ·refine ⟨h.dpi.N,fun q hq=>?_,fun q b' hq=>?_,fun q u' bs' hq=>?_,fun q u' bs' c hq hc=>?_,fun q q' u1 u2 b1 b2 c hq hq' hc hc'=>?_⟩
  ·rw [l4 q]
   ·exact h.dpi.far q hq
   ·intro hm
    have:=halive q hm
    rw [h.dpi.far q hq] at this
    cases this
  ·by_cases hm:q∈a.drs
   ·have hm':=hm
    rw [← l1] at hm
    obtain ⟨⟨q',u2,b2⟩,hm2,rfl⟩:=List.mem_map.1 hm
    obtain ⟨⟨t,xs,e1,e2⟩,_⟩:=l3 _ _ _ hm2
    simp only at e1 hq
    rw [e1] at hq
    cases hq
    exact ⟨u2,b2,hf1 hm2,e2⟩
   ·rw [l4 q hm] at hq
    obtain ⟨u2,b2,e1,e2⟩:=h.dpi.has q b' hq
    refine ⟨u2,b2,by show f q=_;rw [hf2 hm];exact e1,e2.stays fun c hc=>hstep c (h.dpi.lt ⟨q,u2,b2,e1,hc⟩) fun hb=>?_⟩
    obtain ⟨q',u3,b3,r1,r2,r3⟩:=QaA hb
    have:=h.dpi.sep q q' _ _ _ _ c e1 r2 hc r3
    subst this
    exact hm r1
  ·rcases hf hq with ⟨_,hm⟩ | ⟨_,hq⟩
   ·exact QmC hbn (List.mem_map.2 ⟨_,hm,rfl⟩)
   ·exact h.dpi.nodup q u' bs' hq
  ·have key:M.mine c:=by
    rcases hf hq with ⟨_,hm⟩ | ⟨_,hq⟩
    ·exact Qjy (hin hm hc)
    ·exact ⟨q,u',bs',hq,hc⟩
   obtain ⟨k',u2,bs2,p1,p2⟩:=key
   obtain ⟨r1,r2,r3,r4,r5⟩:=h.dpi.blk k' u2 bs2 c p1 p2
   exact ⟨r1,Nat.lt_of_lt_of_le r2 hbx.size,r3,r4,r5⟩
  ·have far:∀ {q q':Nat} {u1 u2:Value} {b1 b2:List Nat},(q,u1,b1)∈L→q'∉a.drs→M.D.δ q'=some (u2,b2)→c∈b1→c∈b2→False:=by
    intro q q' u1 u2 b1 b2 hm hq' hδ hc hc'
    obtain ⟨q2,u3,b3,r1,r2,r3⟩:=QaA (hin hm hc)
    have:=h.dpi.sep q' q2 _ _ _ _ c hδ r2 hc' r3
    subst this
    exact hq' r1
   rcases hf hq with ⟨_,hm⟩ | ⟨hx,hδ⟩<;>rcases hf hq' with ⟨_,hm'⟩ | ⟨hx',hδ'⟩
   ·have:=Qwn hbn hm hm' hc hc'
    cases this
    rfl
   ·exact (far hm hx' hδ' hc hc').elim
   ·exact (far hm' hx hδ hc' hc).elim
   ·exact h.dpi.sep q q' _ _ _ _ c hδ hδ' hc hc'
end
end
end Go.Ab
