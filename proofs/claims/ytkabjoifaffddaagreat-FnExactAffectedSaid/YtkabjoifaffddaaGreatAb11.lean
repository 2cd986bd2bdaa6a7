import Derived.Test.YtkabjoifaffddaaGreatAb10g
namespace Go.Ab
variable {R:Type}
theorem Quq {M M':Me} {k:Nat→Nat→Bool} (hF:M.F.le M'.F) (hμ:∀ d s b,k d s=true→M.μ d s=some b→M'.μ d s=some b) {v:V} {u:Value} (h:RelV M v u) (hk:v.kept k=true):RelV M' v.canon u:=by
 have lst:∀ cs:List V,V.kept.keptL k true cs=true→∀ (i:Nat) (c:V),cs[i]? = some c→c.kept k=true:=by
  intro cs
  induction cs with
  | nil=>intro _ i c hc;simp at hc
  | cons x xs ih =>
   intro h i c hc
   simp only [V.kept.keptL,Bool.and_eq_true] at h
   cases i with
   | zero=>simp at hc;subst hc;exact h.1
   | succ i=>exact ih h.2 i c (by simpa using hc)
 have cl:∀ (cs:List V),(V.canon.canonL cs).length=cs.length:=by
  intro cs;induction cs with
  | nil=>rfl
  | cons x xs ih=>simp [V.canon.canonL,ih]
 have ca:∀ (cs:List V) (i:Nat) (c:V),(V.canon.canonL cs)[i]? = some c→∃ c0,cs[i]? = some c0∧c=c0.canon:=by
  intro cs;induction cs with
  | nil=>intro i c h;simp [V.canon.canonL] at h
  | cons x xs ih =>
   intro i c h
   cases i with
   | zero=>simp [V.canon.canonL] at h;exact ⟨x,by simp,h.symm⟩
   | succ i=>simp [V.canon.canonL] at h;obtain ⟨c0,h1,h2⟩:=ih i c h;exact ⟨c0,by simpa using h1,h2⟩
 induction h with
 | any v=>exact .any v
 | un=>exact .un
 | d t x v hd=>exact .d t x v (hd.mono hF)
 | agg cs arr hl _ h1 ih =>
  refine .agg _ arr (by rw [cl];exact hl) (fun i c u hc hu=>?_) h1
  obtain ⟨c0,hc0,rfl⟩:=ca cs i c hc
  exact ih i c0 u hc0 hu (lst cs hk i c0 hc0)
 | eptr cs b o us hl _ hFF h1 ih =>
  refine .eptr _ b o us (by rw [cl];exact hl) (fun i c u hc hu=>?_) (fun j u hu=>hF _ _ (hFF j u hu)) h1
  obtain ⟨c0,hc0,rfl⟩:=ca cs i c hc
  exact ih i c0 u hc0 hu (lst cs hk i c0 hc0)
 | ptr d s off b n h=>exact .ptr d s off b n (hμ d s _ hk h)
 | rptr d s sz i off b n h=>exact .rptr d s sz i off b n (hμ d s _ hk h)
 | own tok t xs v hd hN hg=>exact .d _ _ _ (hd.mono hF)
 | nils=>exact .nils
 | msl d s b n h hm=>exact .msl d s b n (hμ d s _ hk h) hm
 | fn f cs arr hl _ ih =>
  refine .fn f _ arr (by rw [cl];exact hl) (fun i c u hc hu=>?_)
  obtain ⟨c0,hc0,rfl⟩:=ca cs i c hc
  exact ih i c0 u hc0 hu (lst cs hk i c0 hc0)
 | tup cs arr hl _ ih =>
  refine .tup _ arr (by rw [cl];exact hl) (fun i c u hc hu=>?_)
  obtain ⟨c0,hc0,rfl⟩:=ca cs i c hc
  exact ih i c0 u hc0 hu (lst cs hk i c0 hc0)
 | raw k v _ _=>exact .any v
 | mp d s b n h=>exact .mp d s b n (hμ d s _ hk h)
 | qptr k sz i off v _ _=>exact .any v
 | dr k v _ _=>exact .any v
 | dq k sz i off v _ _=>exact .any v
 | dvw k sz lo hi v _ _=>exact .any v
theorem Qso:∀ (cs:List V),(V.canon.canonL cs).length=cs.length
 | []=>rfl
 | x::xs=>by simp [V.canon.canonL,Qso xs]
theorem Qpu:∀ (cs:List V) (i:Nat) (c:V),(V.canon.canonL cs)[i]? = some c→∃ c0,cs[i]? = some c0∧c=c0.canon
 | [],i,c,h=>by simp [V.canon.canonL] at h
 | x::xs,0,c,h=>by simp [V.canon.canonL] at h;exact ⟨x,by simp,h.symm⟩
 | x::xs,i+1,c,h=>by simp [V.canon.canonL] at h;obtain ⟨c0,h1,h2⟩:=Qpu xs i c h;exact ⟨c0,by simpa using h1,h2⟩
theorem Qwr {k:Nat→Nat→Bool}:∀ {cs:List V},V.kept.keptL k true cs=true→∀ {i:Nat} {c:V},cs[i]? = some c→c.kept k=true
 | [],_,_,_,hc=>by simp at hc
 | x::xs,h,0,c,hc=>by
  simp only [V.kept.keptL,Bool.and_eq_true] at h
  simp at hc;subst hc;exact h.1
 | x::xs,h,i+1,c,hc=>by
  simp only [V.kept.keptL,Bool.and_eq_true] at h
  exact Qwr h.2 (by simpa using hc)
theorem Qws {n:Nat} {v:V} (h:v.le n=true):v.canon.le n=true:=by
 revert h
 apply V.rec (motive_1:=fun v=>v.le n=true→v.canon.le n=true) (motive_2:=fun cs=>V.le.leL n cs=true→V.le.leL n (V.canon.canonL cs)=true) (t:=v)
 ·intro h;exact h
 ·intro h;exact h
 ·intro t x h;exact h
 ·intro cs ih h;exact ih h
 ·intro cs ih h;exact ih h
 ·intro d s off h;exact h
 ·intro d s sz i off h;exact h
 ·intro tok t xs h;rfl
 ·intro h;exact h
 ·intro d s h;exact h
 ·intro f cs ih h;exact ih h
 ·intro cs ih h;exact ih h
 ·intro k h;rfl
 ·intro k sz i off h;rfl
 ·intro d s h;exact h
 ·intro k h;rfl
 ·intro k sz i off h;rfl
 ·intro k sz lo hi h;rfl
 ·intro h;exact h
 ·intro c cs ih1 ih2 h
  simp only [V.le.leL,V.canon.canonL,Bool.and_eq_true] at h ⊢
  exact ⟨ih1 h.1,ih2 h.2⟩
theorem QyY {n:Nat} {cs:List V} (h:V.le.leL n cs=true):V.le.leL n (V.canon.canonL cs)=true:=by
 refine Ug fun c hc=>?_
 obtain ⟨i,hi⟩:=List.getElem?_of_mem hc
 obtain ⟨c0,h1,rfl⟩:=Qpu cs i c hi
 exact Qws (VT h h1)
theorem Qxu {M M':Me} {k:Nat→Nat→Bool} (hF:M.F.le M'.F) (hμ:∀ d s b,k d s=true→M.μ d s=some b→M'.μ d s=some b) {cs:List V} {us:List Value} (h:RelL M cs us) (hk:V.kept.keptL k true cs=true):RelL M' (V.canon.canonL cs) us :=
 ⟨by rw [Qso];exact h.len,fun i c u hc hu=>by
  obtain ⟨c0,h1,rfl⟩:=Qpu cs i c hc
  exact Quq hF hμ (h.at_ i c0 u h1 hu) (Qwr hk h1),h.one⟩
section
variable {P:Program} {base:Base} {w0:Orig} {dp nn:Nat} {st:St} {θ:Nat→Nat→Value} {M:Me} {a:Act} {w:World}
theorem eq?_self:∀ t:Ty,∃ h,Ty.eq? t t=some h
 | .int k=>⟨⟨rfl⟩,by simp [Ty.eq?]⟩
 | .bool=>⟨_,rfl⟩
 | .str=>⟨_,rfl⟩
 | .unit=>⟨_,rfl⟩
 | .list t=>by
  obtain ⟨h,e⟩:=eq?_self t
  exact ⟨⟨rfl⟩,by simp [Ty.eq?,e]⟩
 | .pair a b=>by
  obtain ⟨h,e⟩:=eq?_self a
  obtain ⟨h',e'⟩:=eq?_self b
  exact ⟨⟨rfl⟩,by simp [Ty.eq?,e,e']⟩
 | .map a b=>by
  obtain ⟨h,e⟩:=eq?_self a
  obtain ⟨h',e'⟩:=eq?_self b
  exact ⟨⟨rfl⟩,by simp [Ty.eq?,e,e']⟩
 | .tree t=>by
  obtain ⟨h,e⟩:=eq?_self t
  exact ⟨⟨rfl⟩,by simp [Ty.eq?,e]⟩
theorem castE?_self (k v:Ty) (es:List (k.den × v.den)):castE? k v k v es=some es:=by
 obtain ⟨⟨h⟩,e⟩:=eq?_self k
 obtain ⟨⟨h'⟩,e'⟩:=eq?_self v
 unfold castE?
 rw [e,e']
theorem castL?_self (t:Ty) (xs:List t.den):castL? t t xs=some xs:=by
 obtain ⟨⟨h⟩,e⟩:=eq?_self t
 unfold castL?
 rw [e]
theorem RelV.nils_inv {M:Me} {v:Value} (h:RelV M .nils v):v=.slice none 0 0:=by
 cases h;rfl
structure PartD (w:World) (M:Me) (spdr dr:Nat→Option RBox) (nd:Nat) (D':Dp):Prop where
 N:D'.N=nd
 far:∀ k,nd≤k→dr k=none
 has:∀ k b,dr k=some b→∃ u bs,D'.δ k=some (u,bs)∧DeepD w (.list b.ty) b.xs [u] bs
 from_:∀ k p,D'.δ k=some p→k<nd∧(p.2=[]∨∃ j,M.D.δ j=some p∧(spdr j).isSome=true)
 sep:∀ k k' u u' bs bs' c,D'.δ k=some (u,bs)→D'.δ k'=some (u',bs')→c∈bs→c∈bs'→k=k'
structure Part (base:Base) (dp:Nat) (θ:Nat→Nat→Value) (M:Me) (w:World) (μ':Nat→Nat→Option (Nat × Nat)) (st s:St) (A:Ann) (τ':Nat→Option (Option Reg)) (D':Dp):Prop where
 tm:∀ d t,d≤dp→RelV ⟨M.F,μ',τ',s.nt,D'⟩ (s.tm d t) (θ d t)
 le:∀ d t,d≤dp→(s.tm d t).le d=true
 bx:∀ d x,d≤dp→match s.bx d x with
  | .none=>A.keeps d x=false
  | .cells cs=>A.keeps d x=true∧∃ b T arr,M.μ d x=some (b,0)∧Own base b∧w.heap[b]? = some (.cells arr T (0,0))∧RelL ⟨M.F,μ',τ',s.nt,D'⟩ cs arr.toList∧V.le.leL d cs=true
  | .rows ty xs=>A.keeps d x=true∧∃ b T arr,M.μ d x=some (b,xs.length)∧Own base b∧w.heap[b]? = some (.cells arr T (0,0))∧arr.size=xs.length*ty.cells∧xs.length≤maxLen ∧
    ∀ (i:Nat) x,xs[i]? = some x→RelD M.F ty x ((arr.toList.drop (i*ty.cells)).take ty.cells)
  | .map k v es=>A.keeps d x=true∧∃ b ms c,M.μ d x=some (b,0)∧Own base b∧w.heap[b]? = some (.map ms c)∧MapRel M.F k v es ms c
 tok:∀ k o,τ' k=some o→k<s.nt∧s.lv k=true∧(o=none∨∃ j,M.τ j=some o∧st.lv j=true)
 live:∀ k,s.lv k=true→∃ o,τ' k=some o
 tsep:∀ k k' reg reg',τ' k=some (some reg)→τ' k'=some (some reg')→reg.g=reg'.g→k=k'
 lv:∀ k,s.nt≤k→s.lv k=false
 rw:∀ k b,s.rw k=some b→s.lv k=true∧(τ' k=some none→b.xs=[])∧∀ reg,τ' k=some (some reg)→reg.n=b.xs.length∧reg.sz=b.ty.cells∧(∀ a,a.block=reg.g→M.F a=none) ∧
  ∃ cur e,w.heap[reg.g]? = some (.cells cur e (0,0))∧∀ (i:Nat) x,b.xs[i]? = some x→RelD M.F b.ty x ((cur.toList.drop (i*b.ty.cells)).take b.ty.cells)
 dpr:PartD w M st.dr s.dr s.nd D'
theorem RelV.moreTok {F:Snap} {μ:Nat→Nat→Option (Nat × Nat)} {τ τ':Nat→Option (Option Reg)} {N N':Nat} {D D1:Dp} (hN:N≤N') (hτ:∀ k o,k<N→τ' k=some o→τ k=some o) (hD:D.le D1) {v:V} {u:Value} (h:RelV ⟨F,μ,τ,N,D⟩ v u):RelV ⟨F,μ,τ',N',D1⟩ v u:=by
 generalize hq:(⟨F,μ,τ,N,D⟩:Me)=Q at h
 induction h with
 | any v=>exact .any v
 | un=>exact .un
 | d t x v hd=>subst hq;exact .d t x v hd
 | agg cs arr hl _ h1 ih=>exact .agg cs arr hl (fun i c u hc hu=>ih i c u hc hu) h1
 | eptr cs b o us hl _ hFF h1 ih=>subst hq;exact .eptr cs b o us hl (fun i c u hc hu=>ih i c u hc hu) hFF h1
 | ptr d s off b n h=>subst hq;exact .ptr d s off b n h
 | rptr d s sz i off b n h=>subst hq;exact .rptr d s sz i off b n h
 | own tok t xs v hd hN' hg=>subst hq;exact .own tok t xs v hd (Nat.lt_of_lt_of_le hN' hN) (fun reg hr=>hg reg (hτ tok reg hN' hr))
 | nils=>exact .nils
 | msl d s b n h hm=>subst hq;exact .msl d s b n h hm
 | fn f cs arr hl _ ih=>exact .fn f cs arr hl (fun i c u hc hu=>ih i c u hc hu)
 | tup cs arr hl _ ih=>exact .tup cs arr hl (fun i c u hc hu=>ih i c u hc hu)
 | mp d s b n h=>subst hq;exact .mp d s b n h
 | raw k v hN' hr=>subst hq;exact .raw k v (Nat.lt_of_lt_of_le hN' hN) (fun o ho=>hr o (hτ k o hN' ho))
 | qptr k sz i off v hN' hr=>subst hq;exact .qptr k sz i off v (Nat.lt_of_lt_of_le hN' hN) (fun reg ho=>hr reg (hτ k _ hN' ho))
 | dr k v hN' h1 hr=>subst hq;exact .dr k v (Nat.lt_of_lt_of_le hN' hD.N) h1 (fun u bs h=>let ⟨bs',h'⟩:=hD.δ k u bs hN' h;hr u bs' h')
 | dq k sz i off v hN' hp hr=>subst hq;exact .dq k sz i off v (Nat.lt_of_lt_of_le hN' hD.N) hp (fun b o n c bs h=>let ⟨bs',h'⟩:=hD.δ k _ bs hN' h;hr b o n c bs' h')
 | dvw k sz lo hi v hN' h1 hr=>subst hq;exact .dvw k sz lo hi v (Nat.lt_of_lt_of_le hN' hD.N) h1 (fun ad n c bs h=>let ⟨bs',h'⟩:=hD.δ k _ bs hN' h;hr ad n c bs' h')
theorem Part.set {μ':Nat→Nat→Option (Nat × Nat)} {sp s:St} {A:Ann} {τ':Nat→Option (Option Reg)} {D':Dp} (h:Part base dp θ M w μ' sp s A τ' D') {d t:Nat} {v:V} (hv:d≤dp→RelV ⟨M.F,μ',τ',s.nt,D'⟩ v (θ d t)) (hle:d≤dp→v.le d=true):Part base dp θ M w μ' sp (s.set d t v) A τ' D':=by
 refine ⟨?_,?_,h.bx,h.tok,h.live,h.tsep,h.lv,h.rw,h.dpr⟩
 ·intro d' t' hd'
  simp only [St.set]
  by_cases e:d'=d∧t'=t
  ·obtain ⟨rfl,rfl⟩:=e
   rw [Qju];exact hv hd'
  ·rw [QbN _ _ _ _ _ _ e];exact h.tm d' t' hd'
 ·intro d' t' hd'
  simp only [St.set]
  by_cases e:d'=d∧t'=t
  ·obtain ⟨rfl,rfl⟩:=e
   rw [Qju];exact hle hd'
  ·rw [QbN _ _ _ _ _ _ e];exact h.le d' t' hd'
theorem Part.item {μ':Nat→Nat→Option (Nat × Nat)} {sp s:St} {A:Ann} {τ':Nat→Option (Option Reg)} {D':Dp} (h:Part base dp θ M w μ' sp s A τ' D') {i:Item} (hi:∀ d s,i.isBox d s=false):Part base dp θ M w μ' sp s (i::A) τ' D':=by
 refine ⟨h.tm,h.le,fun d x hd=>?_,h.tok,h.live,h.tsep,h.lv,h.rw,h.dpr⟩
 have:=h.bx d x hd
 have hk:Ann.keeps (i::A) d x=Ann.keeps A d x:=by rw [Ann.keeps,hi];rfl
 rw [hk];exact this
theorem QgE {d s d' s' n:Nat}:Item.isBox d s (.box d' s' n)=true↔(d=d'∧s=s'):=by
 simp only [Item.isBox,Bool.and_eq_true]
 constructor
 ·rintro ⟨h1,h2⟩;exact ⟨(Nat.eq_of_beq_eq_true h2).symm,(Nat.eq_of_beq_eq_true h1).symm⟩
 ·rintro ⟨rfl,rfl⟩;exact ⟨Nat.beq_refl _,Nat.beq_refl _⟩
theorem Qsp {d s d' s':Nat} {ty:Ty}:Item.isBox d s (.boxd d' s' ty)=true↔(d=d'∧s=s'):=QgE (n:=0)
theorem Qur {d s d' s':Nat} {k v:Ty}:Item.isBox d s (.mapb d' s' k v)=true↔(d=d'∧s=s'):=QgE (n:=0)
theorem Qsq {d s d' s':Nat} {ty:Ty}:Item.isBox d s (.rows d' s' ty)=true↔(d=d'∧s=s'):=QgE (n:=0)
theorem RelL.moreTok {F:Snap} {μ:Nat→Nat→Option (Nat × Nat)} {τ τ':Nat→Option (Option Reg)} {N N':Nat} {D D1:Dp} (hN:N≤N') (hτ:∀ k o,k<N→τ' k=some o→τ k=some o) (hD:D.le D1) {cs:List V} {us:List Value} (h:RelL ⟨F,μ,τ,N,D⟩ cs us):RelL ⟨F,μ,τ',N',D1⟩ cs us:=⟨h.len,fun i c u hc hu=>RelV.moreTok hN hτ hD (h.at_ i c u hc hu),h.one⟩
theorem Qyu (h:Rel P base w0 dp st θ M w) {r:Ann} {μ':Nat→Nat→Option (Nat × Nat)} {sp:St} {D':Dp} (sp':St) (s:St) (τ':Nat→Option (Option Reg)) (o:Option Reg) (hp:Part base dp θ M w μ' sp' s r τ' D') (hsub:∀ k,sp'.lv k=true→sp.lv k=true) (hdr:sp'.dr=sp.dr)
  (ho:o=none∨∃ j,M.τ j=some o∧sp.lv j=true∧sp'.lv j=false) :
  ∃ τ'',Part base dp θ M w μ' sp s.mint r τ'' D'∧τ'' s.nt=some o:=by
 have up:∀ (k:Nat) (o':Option Reg),k<s.nt→(if k=s.nt then some o else τ' k)=some o'→τ' k=some o':=fun k o' hk ho'=>by rw [if_neg (by omega)] at ho';exact ho'
 refine ⟨fun k=>if k=s.nt then some o else τ' k,⟨?_,hp.le,?_,?_,?_,?_,?_,?_,by rw [← hdr];exact hp.dpr⟩,if_pos rfl⟩
 ·intro d' t' hd'
  exact RelV.moreTok (Nat.le_succ _) up (.refl _) (hp.tm d' t' hd')
 ·intro d' x hd'
  have:=hp.bx d' x hd'
  revert this
  show (match s.bx d' x with | .none=>_ | .cells cs=>_ | .rows ty xs=>_ | .map k v es=>_)→(match s.bx d' x with | .none=>_ | .cells cs=>_ | .rows ty xs=>_ | .map k v es=>_)
  cases s.bx d' x with
  | cells cs =>
   rintro ⟨hk,b,T,arr,h1,h2,h3,h4,h5⟩
   exact ⟨hk,b,T,arr,h1,h2,h3,h4.moreTok (Nat.le_succ _) up (.refl _),h5⟩
  | _=>exact fun h=>h
 ·intro k o' hk
  split at hk
  ·rename_i e
   cases hk
   subst e
   refine ⟨by simp [St.mint],by simp only [St.mint];rw [GG],?_⟩
   rcases ho with ho | ⟨j,h1,h2,_⟩
   ·exact .inl ho
   ·exact .inr ⟨j,h1,h2⟩
  ·rename_i e
   obtain ⟨h1,h2,h3⟩:=hp.tok k o' hk
   refine ⟨by simp only [St.mint];omega,by simp only [St.mint];rw [HA _ _ _ _ e];exact h2,?_⟩
   rcases h3 with h3 | ⟨j,h4,h5⟩
   ·exact .inl h3
   ·exact .inr ⟨j,h4,hsub j h5⟩
 ·intro k hk
  simp only [St.mint] at hk
  by_cases e:k=s.nt
  ·rw [if_pos e];exact ⟨_,rfl⟩
  ·rw [HA _ _ _ _ e] at hk
   rw [if_neg e];exact hp.live k hk
 ·intro k k' reg reg' h1 h2 e
  have diff:∀ (k:Nat) (reg reg':Reg),τ' k=some (some reg)→o=some reg'→reg.g≠reg'.g:=by
   intro k reg reg' hk ho' eg
   obtain ⟨_,_,h3⟩:=hp.tok k _ hk
   rcases h3 with h3 | ⟨j,h4,h5⟩
   ·cases h3
   ·rcases ho with ho | ⟨j',h6,h7,h8⟩
    ·rw [ho] at ho';cases ho'
    ·subst ho'
     have:=h.tsep j j' reg reg' h4 h6 eg
     subst this
     rw [h5] at h8;cases h8
  split at h1
  ·rename_i e1
   split at h2
   ·rename_i e2;omega
   ·cases h1;exact absurd e.symm (diff k' reg' reg h2 rfl)
  ·split at h2
   ·cases h2;exact absurd e (diff k reg reg' h1 rfl)
   ·exact hp.tsep k k' reg reg' h1 h2 e
 ·intro k hk
  simp only [St.mint] at hk ⊢
  rw [HA _ _ _ _ (by omega)]
  exact hp.lv k (by omega)
 ·intro k b hk
  obtain ⟨h1,h2,h3⟩:=hp.rw k b hk
  have hne:k≠s.nt:=fun e=>by rw [hp.lv k (by omega)] at h1;cases h1
  refine ⟨by simp only [St.mint];rw [HA _ _ _ _ hne];exact h1,?_,?_⟩
  ·rw [if_neg hne];exact h2
  ·rw [if_neg hne];exact h3
theorem Qvz (h:Rel P base w0 dp st θ M w) {r:Ann} {μ':Nat→Nat→Option (Nat × Nat)} {sp:St} {d t:Nat} {i:Item} {v:V} {D':Dp} (sp':St) (s:St) (τ':Nat→Option (Option Reg)) (o:Option Reg) (hp:Part base dp θ M w μ' sp' s r τ' D') (hsub:∀ k,sp'.lv k=true→sp.lv k=true) (hdr:sp'.dr=sp.dr)
  (ho:o=none∨∃ j,M.τ j=some o∧sp.lv j=true∧sp'.lv j=false) (hv:∀ τ:Nat→Option (Option Reg),τ s.nt=some o→d≤dp→RelV ⟨M.F,μ',τ,s.nt+1,D'⟩ v (θ d t)) (hle:v.le d=true) (hbox:∀ d s,i.isBox d s=false:=by intros;rfl) :
  ∃ τ'',Part base dp θ M w μ' sp (s.mint.set d t v) (i::r) τ'' D'∧τ'' s.nt=some o:=by
 obtain ⟨τ'',h1,h2⟩:=Qyu h sp' s τ' o hp hsub hdr ho
 exact ⟨τ'',Part.item (Part.set (s:=s.mint) h1 (hv _ h2) (fun _=>hle)) hbox,h2⟩
theorem QvA {n:Nat} {v:V} (hv:v.le n=true):∀ (cs:List V) (j:Nat),V.le.leL n cs=true→V.le.leL n (cs.set j v)=true
 | [],_,h=>h
 | c::cs,0,h=>by
  simp only [V.le.leL,List.set,Bool.and_eq_true] at h ⊢
  exact ⟨hv,h.2⟩
 | c::cs,j+1,h=>by
  simp only [V.le.leL,List.set,Bool.and_eq_true] at h ⊢
  exact ⟨h.1,QvA hv cs j h.2⟩
theorem RelL.set {M:Me} {cs:List V} {us:List Value} (h:RelL M cs us) {j:Nat} {v:V} (hv:∀ u,us[j]? = some u→RelV M v u):RelL M (cs.set j v) us:=by
 refine ⟨by rw [List.length_set];exact h.len,fun i c u hc hu=>?_,h.one⟩
 rw [List.getElem?_set] at hc
 split at hc
 ·rename_i e
  subst e
  split at hc
  ·cases hc;exact hv u hu
  ·cases hc
 ·exact h.at_ i c u hc hu
theorem Qyv (h:Rel P base w0 dp st θ M w) {r:Ann} {μ':Nat→Nat→Option (Nat × Nat)} {sp:St} {d x j:Nat} {ty:Ty} {v:V} {cs:List V} {D':Dp} (sp':St) (s:St) (τ':Nat→Option (Option Reg)) (o:Option Reg) (hp:Part base dp θ M w μ' sp' s r τ' D') (hsub:∀ k,sp'.lv k=true→sp.lv k=true) (hdr:sp'.dr=sp.dr)
  (ho:o=none∨∃ j,M.τ j=some o∧sp.lv j=true∧sp'.lv j=false) (hb:s.bx d x=.cells cs)
  (hv:∀ (τ:Nat→Option (Option Reg)) (b:Nat) (T:TypeId) (arr:Array Value) (u:Value),τ s.nt=some o→d≤dp→M.μ d x=some (b,0)→w.heap[b]? = some (.cells arr T (0,0))→arr.toList[j]? = some u→RelV ⟨M.F,μ',τ,s.nt+1,D'⟩ v u) (hle:v.le d=true) :
  ∃ (τ'':Nat→Option (Option Reg)) (D'':Dp),Part base dp θ M w μ' sp (s.mint.setB d x (.cells (cs.set j v))) (.ownb d x j ty::r) τ'' D'':=by
 obtain ⟨τ'',h1,h2⟩:=Qyu h sp' s τ' o hp hsub hdr ho
 refine ⟨τ'',D',Part.item (i:=.ownb d x j ty) (s:=s.mint.setB d x (.cells (cs.set j v))) ⟨h1.tm,h1.le,?_,h1.tok,h1.live,h1.tsep,h1.lv,h1.rw,h1.dpr⟩ (fun _ _=>rfl)⟩
 intro d' x' hd'
 have:=h1.bx d' x' hd'
 simp only [St.setB]
 by_cases e:d'=d∧x'=x
 ·obtain ⟨rfl,rfl⟩:=e
  rw [Qao]
  have hb':s.mint.bx d' x'=.cells cs:=hb
  rw [hb'] at this
  obtain ⟨hk,b,T,arr,h3,h4,h5,h6,h7⟩:=this
  exact ⟨hk,b,T,arr,h3,h4,h5,h6.set (fun u hu=>hv τ'' b T arr u h2 hd' h3 h5 hu),QvA hle _ _ h7⟩
 ·rw [Wl _ _ _ _ _ _ e]
  exact this
theorem QzY {μ':Nat→Nat→Option (Nat × Nat)} {sp s:St} {A:Ann} {τ':Nat→Option (Option Reg)} {D':Dp} (h:Part base dp θ M w μ' sp s A τ' D') {k:Nat} {b:RBox}
  (hb:s.lv k=true∧(τ' k=some none→b.xs=[])∧∀ reg,τ' k=some (some reg)→reg.n=b.xs.length∧reg.sz=b.ty.cells∧(∀ a,a.block=reg.g→M.F a=none) ∧
   ∃ cur e,w.heap[reg.g]? = some (.cells cur e (0,0))∧∀ (i:Nat) x,b.xs[i]? = some x→RelD M.F b.ty x ((cur.toList.drop (i*b.ty.cells)).take b.ty.cells)) :
  Part base dp θ M w μ' sp (s.setR k (some b)) A τ' D':=by
 refine ⟨h.tm,h.le,h.bx,h.tok,h.live,h.tsep,h.lv,?_,h.dpr⟩
 intro k' b' hk
 simp only [St.setR] at hk ⊢
 by_cases e:k'=k
 ·subst e
  rw [Ya] at hk
  cases hk
  exact hb
 ·rw [Zi _ _ _ _ e] at hk
  exact h.rw k' b' hk
theorem QBs {r:Ann} {μ':Nat→Nat→Option (Nat × Nat)} {sp s:St} {τ':Nat→Option (Option Reg)} {D':Dp} (ty:Ty) (hp:Part base dp θ M w μ' sp s r τ' D') :
  ∃ D'':Dp,D''.δ s.nd=some (Value.slice none 0 0,[])∧D''.N=s.nd+1∧Part base dp θ M w μ' sp (s.mintD ⟨ty,[]⟩) r τ' D'':=by
 have hδ':∀ {k:Nat} {p:Value × List Nat},(if k=s.nd then some (Value.slice none 0 0,[]) else D'.δ k)=some p→(k=s.nd∧p=(Value.slice none 0 0,[]))∨(k≠s.nd∧D'.δ k=some p):=by
  intro k p hk
  split at hk
  ·rename_i e;exact .inl ⟨e,(Option.some.inj hk).symm⟩
  ·rename_i e;exact .inr ⟨e,hk⟩
 have hle:D'.le ⟨fun k=>if k=s.nd then some (Value.slice none 0 0,[]) else D'.δ k,s.nd+1⟩:=by
  refine ⟨by show D'.N≤_;rw [hp.dpr.N];exact Nat.le_succ _,fun k u' bs' hlt hk=>?_⟩
  rw [hp.dpr.N] at hlt
  rcases hδ' hk with ⟨e,_⟩ | ⟨_,e⟩
  ·omega
  ·exact ⟨_,e⟩
 have hp1:Part base dp θ M w μ' sp (s.mintD ⟨ty,[]⟩) r τ' ⟨fun k=>if k=s.nd then some (Value.slice none 0 0,[]) else D'.δ k,s.nd+1⟩:=by
  refine ⟨fun d' t' hd'=>RelV.moreTok (Nat.le_refl _) (fun _ _ _ h=>h) hle (hp.tm d' t' hd'),hp.le,?_,fun k o hk=>?_,hp.live,hp.tsep,hp.lv,hp.rw,?_⟩
  ·intro d' x hd'
   have:=hp.bx d' x hd'
   revert this
   show (match s.bx d' x with | .none=>_ | .cells cs=>_ | .rows ty xs=>_ | .map k v es=>_)→(match s.bx d' x with | .none=>_ | .cells cs=>_ | .rows ty xs=>_ | .map k v es=>_)
   cases s.bx d' x with
   | cells cs =>
    rintro ⟨hk,b,T,arr,h1,h2,h3,h4,h5⟩
    exact ⟨hk,b,T,arr,h1,h2,h3,h4.moreTok (Nat.le_refl _) (fun _ _ _ h=>h) hle,h5⟩
   | _=>exact fun h=>h
  ·exact hp.tok k o hk
  ·refine ⟨rfl,fun k hk=>?_,fun k b hk=>?_,fun k p hk=>?_,fun k k' u1 u2 b1 b2 c hk hk' hc hc'=>?_⟩
   ·have hk:s.nd+1≤k:=hk
    simp only [St.mintD]
    rw [Zi _ _ _ _ (by omega)]
    exact hp.dpr.far k (by omega)
   ·simp only [St.mintD] at hk
    by_cases e:k=s.nd
    ·subst e
     rw [Ya] at hk
     cases hk
     exact ⟨_,_,if_pos rfl,none,0,rfl,Nat.le_refl _,Nat.zero_le _,fun _=>rfl,.inl ⟨rfl,rfl⟩⟩
    ·rw [Zi _ _ _ _ e] at hk
     obtain ⟨u',bs',k1,k2⟩:=hp.dpr.has k b hk
     exact ⟨u',bs',by simp only;rw [if_neg e];exact k1,k2⟩
   ·rcases hδ' hk with ⟨e,e'⟩ | ⟨_,e⟩
    ·subst e'
     exact ⟨by show k<s.nd+1;omega,.inl rfl⟩
    ·obtain ⟨k1,k2⟩:=hp.dpr.from_ k p e
     exact ⟨by show k<s.nd+1;omega,k2⟩
   ·rcases hδ' hk with ⟨e1,e⟩ | ⟨_,e⟩<;>rcases hδ' hk' with ⟨e1',e'⟩ | ⟨_,e'⟩
    ·exact e1.trans e1'.symm
    ·cases e;cases hc
    ·cases e';cases hc'
    ·exact hp.dpr.sep k k' _ _ _ _ c e e' hc hc'
 exact ⟨_,if_pos rfl,rfl,hp1⟩
theorem QBt (h:Rel P base w0 dp st θ M w) {r:Ann} {μ':Nat→Nat→Option (Nat × Nat)} {sp s:St} {τ':Nat→Option (Option Reg)} {D':Dp} {q:Nat} {ty':Ty} {xs:List ty'.den} (hb:sp.dr q=some ⟨ty',xs⟩) (hstq:st.dr q=some ⟨ty',xs⟩) (hp:Part base dp θ M w μ' (sp.setD q none) s r τ' D') :
  ∃ (D'':Dp) (u:Value) (bs:List Nat),M.D.δ q=some (u,bs)∧D''.δ s.nd=some (u,bs)∧D''.N=s.nd+1∧Part base dp θ M w μ' sp (s.mintD ⟨ty',xs⟩) r τ' D'':=by
 have hsub:∀ k b,(sp.setD q none).dr k=some b→k≠q∧sp.dr k=some b:=by
  intro k b hk
  simp only [St.setD] at hk
  by_cases e:k=q
  ·subst e;rw [Ya] at hk;cases hk
  ·rw [Zi _ _ _ _ e] at hk;exact ⟨e,hk⟩
 obtain ⟨u,bs,hδ,hdeep⟩:=h.dpi.has q _ hstq
 have hδ':∀ {k:Nat} {p:Value × List Nat},(if k=s.nd then some (u,bs) else D'.δ k)=some p→(k=s.nd∧p=(u,bs))∨(k≠s.nd∧D'.δ k=some p):=by
  intro k p hk
  split at hk
  ·rename_i e;exact .inl ⟨e,(Option.some.inj hk).symm⟩
  ·rename_i e;exact .inr ⟨e,hk⟩
 have hle:D'.le ⟨fun k=>if k=s.nd then some (u,bs) else D'.δ k,s.nd+1⟩:=by
  refine ⟨by show D'.N≤_;rw [hp.dpr.N];exact Nat.le_succ _,fun k u' bs' hlt hk=>?_⟩
  rw [hp.dpr.N] at hlt
  rcases hδ' hk with ⟨e,_⟩ | ⟨_,e⟩
  ·omega
  ·exact ⟨_,e⟩
 have hp1:Part base dp θ M w μ' sp (s.mintD ⟨ty',xs⟩) r τ' ⟨fun k=>if k=s.nd then some (u,bs) else D'.δ k,s.nd+1⟩:=by
  refine ⟨fun d' t' hd'=>RelV.moreTok (Nat.le_refl _) (fun _ _ _ h=>h) hle (hp.tm d' t' hd'),hp.le,?_,fun k o hk=>?_,hp.live,hp.tsep,hp.lv,hp.rw,?_⟩
  ·intro d' x hd'
   have:=hp.bx d' x hd'
   revert this
   show (match s.bx d' x with | .none=>_ | .cells cs=>_ | .rows ty xs=>_ | .map k v es=>_)→(match s.bx d' x with | .none=>_ | .cells cs=>_ | .rows ty xs=>_ | .map k v es=>_)
   cases s.bx d' x with
   | cells cs =>
    rintro ⟨hk,b,T,arr,h1,h2,h3,h4,h5⟩
    exact ⟨hk,b,T,arr,h1,h2,h3,h4.moreTok (Nat.le_refl _) (fun _ _ _ h=>h) hle,h5⟩
   | _=>exact fun h=>h
  ·exact hp.tok k o hk
  ·refine ⟨rfl,fun k hk=>?_,fun k b hk=>?_,fun k p hk=>?_,fun k k' u1 u2 b1 b2 c hk hk' hc hc'=>?_⟩
   ·have hk:s.nd+1≤k:=hk
    simp only [St.mintD]
    rw [Zi _ _ _ _ (by omega)]
    exact hp.dpr.far k (by omega)
   ·simp only [St.mintD] at hk
    by_cases e:k=s.nd
    ·subst e
     rw [Ya] at hk
     cases hk
     exact ⟨u,bs,if_pos rfl,hdeep⟩
    ·rw [Zi _ _ _ _ e] at hk
     obtain ⟨u',bs',k1,k2⟩:=hp.dpr.has k b hk
     exact ⟨u',bs',by simp only;rw [if_neg e];exact k1,k2⟩
   ·rcases hδ' hk with ⟨e,e'⟩ | ⟨_,e⟩
    ·subst e'
     exact ⟨by show k<s.nd+1;omega,.inr ⟨q,hδ,by rw [hb];rfl⟩⟩
    ·obtain ⟨k1,k4 | ⟨j,k2,k3⟩⟩:=hp.dpr.from_ k p e
     ·exact ⟨by show k<s.nd+1;omega,.inl k4⟩
     obtain ⟨bj,hbj⟩:=Option.isSome_iff_exists.1 k3
     exact ⟨by show k<s.nd+1;omega,.inr ⟨j,k2,by rw [(hsub j bj hbj).2];rfl⟩⟩
   ·have far:∀ {k:Nat} {u2:Value} {b2:List Nat},D'.δ k=some (u2,b2)→c∈b2→c∈bs→False:=by
     intro k u2 b2 hk hc2 hc1
     obtain ⟨_,k4 | ⟨j,k2,k3⟩⟩:=hp.dpr.from_ k _ hk
     ·have k4:b2=[]:=k4
      rw [k4] at hc2;cases hc2
     obtain ⟨bj,hbj⟩:=Option.isSome_iff_exists.1 k3
     exact (hsub j bj hbj).1 (h.dpi.sep j q _ _ _ _ c k2 hδ hc2 hc1)
    rcases hδ' hk with ⟨e1,e⟩ | ⟨_,e⟩<;>rcases hδ' hk' with ⟨e1',e'⟩ | ⟨_,e'⟩
    ·exact e1.trans e1'.symm
    ·cases e;exact (far e' hc' hc).elim
    ·cases e';exact (far e hc hc').elim
    ·exact hp.dpr.sep k k' _ _ _ _ c e e' hc hc'
 exact ⟨_,u,bs,hδ,if_pos rfl,rfl,hp1⟩
theorem Part.setCell {r:Ann} {μ':Nat→Nat→Option (Nat × Nat)} {sp s:St} {τ':Nat→Option (Option Reg)} {D':Dp} (hp:Part base dp θ M w μ' sp s r τ' D') {d x j:Nat} {v:V} {cs:List V} (hb:s.bx d x=.cells cs)
  (hv:∀ (b:Nat) (T:TypeId) (arr:Array Value) (u:Value),d≤dp→M.μ d x=some (b,0)→w.heap[b]? = some (.cells arr T (0,0))→arr.toList[j]? = some u→RelV ⟨M.F,μ',τ',s.nt,D'⟩ v u) (hle:v.le d=true) :
  Part base dp θ M w μ' sp (s.setB d x (.cells (cs.set j v))) r τ' D':=by
 refine ⟨hp.tm,hp.le,?_,hp.tok,hp.live,hp.tsep,hp.lv,hp.rw,hp.dpr⟩
 intro d' x' hd'
 have:=hp.bx d' x' hd'
 simp only [St.setB]
 by_cases e:d'=d∧x'=x
 ·obtain ⟨rfl,rfl⟩:=e
  rw [Qao]
  rw [hb] at this
  obtain ⟨hk,b,T,arr,h3,h4,h5,h6,h7⟩:=this
  exact ⟨hk,b,T,arr,h3,h4,h5,h6.set (fun u hu=>hv b T arr u hd' h3 h5 hu),QvA hle _ _ h7⟩
 ·rw [Wl _ _ _ _ _ _ e]
  exact this
theorem Qsr (A:Ann) (d s:Nat):∀ (cs:List V) (j i:Nat) (c:V),(QlO A d s j cs)[i]? = some c→c=.any∨cs[i]? = some c
 | [],_,i,c,h=>by simp [QlO] at h
 | a::cs,j,0,c,h=>by
  simp only [QlO,List.getElem?_cons_zero,Option.some.injEq] at h ⊢
  cases hg:A.growsIn d s j with
  | true=>rw [hg] at h;exact .inl h.symm
  | false=>rw [hg] at h;exact .inr h
 | a::cs,j,i+1,c,h=>by
  simp only [QlO,List.getElem?_cons_succ] at h ⊢
  exact Qsr A d s cs (j+1) i c h
theorem Qus (A:Ann) (d s:Nat):∀ (cs:List V) (j:Nat),(QlO A d s j cs).length=cs.length
 | [],_=>rfl
 | a::cs,j=>by simp [QlO,Qus A d s cs (j+1)]
theorem QyZ {M:Me} {A:Ann} {d s j:Nat} {cs:List V} {us:List Value} (h:RelL M cs us):RelL M (QlO A d s j cs) us :=
 ⟨by rw [Qus];exact h.len,fun i c u hc hu=>by
  rcases Qsr A d s cs j i c hc with rfl | h1
  ·exact .any _
  ·exact h.at_ i c u h1 hu,h.one⟩
theorem QzZ {n:Nat} {A:Ann} {d s j:Nat} {cs:List V} (h:V.le.leL n cs=true):V.le.leL n (QlO A d s j cs)=true:=by
 refine Ug fun c hc=>?_
 obtain ⟨i,hi⟩:=List.getElem?_of_mem hc
 rcases Qsr A d s cs j i c hi with rfl | h1
 ·rfl
 ·exact VT h h1
theorem Yl (h:Rel P base w0 dp st θ M w) {A:Ann} {μ':Nat→Nat→Option (Nat × Nat)} (hμ:∀ d s b,A.keeps d s=true→M.μ d s=some b→μ' d s=some b) :
  ∀ (r:Ann) (sp:St) (vs:List V),St.live A sp r=some vs→sp.tm=st.tm→sp.bx=st.bx→(∀ k,sp.lv k=true→st.lv k=true)∧(∀ k b,sp.rw k=some b→st.rw k=some b)∧(∀ k b,sp.dr k=some b→st.dr k=some b)→∃ τ' D',Part base dp θ M w μ' sp (QZ r vs) r τ' D'
 | [],sp,vs,hl,_,_,_=>by
  refine ⟨fun _=>none,.no,?_⟩
  have:QZ [] vs=St.empty:=by cases vs<;>rfl
  rw [this]
  exact ⟨fun d t _=>.any _,fun d t _=>rfl,fun d x _=>rfl,fun k o hk=>(by cases hk),fun k hk=>(by simp [St.empty] at hk),fun k k' r r' hk=>(by cases hk),fun k _=>rfl,fun k b hk=>(by cases hk),rfl,fun _ _=>rfl,fun k b hk=>(by cases hk),fun k p hk=>(by cases hk),fun k k' u u' bs bs' c hk=>(by cases hk)⟩
 | .keep d t::r,sp,vs,hl,htm,hbx,hlv=>by
  simp only [St.live] at hl
  obtain ⟨hk,hl⟩:=Qn hl
  obtain ⟨vs',hl',rfl⟩:=Option.map_eq_some_iff.1 hl
  obtain ⟨τ',D',hp⟩:=Yl h hμ r sp vs' hl' htm hbx hlv
  rw [htm] at hk ⊢
  exact ⟨τ',D',(hp.set (fun hd=>Quq (M:=M) (M':=⟨M.F,μ',τ',_,D'⟩) (.refl _) hμ (h.tm d t hd) hk) (fun hd=>Qws (h.le d t hd))).item fun _ _=>rfl⟩
 | .drbb d s j ty::r,sp,vs,hl,htm,hbx,hlv=>by
  simp only [St.live] at hl
  split at hl
  case h_2=>cases hl
  rename_i cs0 hb
  rw [hbx] at hb
  have cell:∀ (b:Nat) (T:TypeId) (arr:Array Value) (u:Value) (c:V),d≤dp→cs0[j]? = some c→M.μ d s=some (b,0)→w.heap[b]? = some (.cells arr T (0,0))→arr.toList[j]? = some u→RelV M c u:=by
   intro b T arr u c hd hc hm hh hu
   obtain ⟨b',T',arr',h1,h2,h3,h4,h5⟩:=h.cells hd hb
   rw [hm] at h1;cases h1
   rw [hh] at h3;cases h3
   exact h4.at_ j c u hc hu
  split at hl
  case h_3=>cases hl
  ·rename_i hv
   obtain ⟨vs',hl',rfl⟩:=Option.map_eq_some_iff.1 hl
   obtain ⟨τ',D',hp⟩:=Yl h hμ r sp vs' hl' htm hbx hlv
   have hc:castL? ty ty []=some ([]:List ty.den):=castL?_self ty []
   cases hq:(QZ r vs').bx d s with
   | cells cs =>
    have hmk:QZ (.drbb d s j ty::r) (V.d (.list ty) ([]:List ty.den)::vs')=((QZ r vs').mintD ⟨ty,[]⟩).setB d s (.cells (cs.set j (.dr (QZ r vs').nd))):=by
     simp only [QZ,hc,hq]
    rw [hmk]
    obtain ⟨D'',e1,e2,hp1⟩:=QBs ty hp
    refine ⟨τ',D'',(hp1.setCell (v:=.dr (QZ r vs').nd) (j:=j) (d:=d) (x:=s) hq (fun b T arr u hd hm hh hu=>?_) rfl).item fun _ _=>rfl⟩
    have hn:u=.slice none 0 0:=(cell b T arr u _ hd hv hm hh hu).nils_inv
    refine .dr _ _ (by show (QZ r vs').nd<D''.N;omega) (by rw [hn];rfl) fun u' bs' hk=>?_
    have hk:D''.δ (QZ r vs').nd=some (u',bs'):=hk
    rw [e1] at hk
    cases hk
    exact hn
   | _ =>
    have hmk:QZ (.drbb d s j ty::r) (V.d (.list ty) ([]:List ty.den)::vs')=QZ r vs':=by
     simp only [QZ,hc,hq]
    rw [hmk]
    exact ⟨τ',D',hp.item fun _ _=>rfl⟩
  ·rename_i q hv
   split at hl
   case h_2=>cases hl
   rename_i ty' xs' hbq
   split at hl
   case h_2=>cases hl
   rename_i xs hxs
   obtain ⟨vs',hl',rfl⟩:=Option.map_eq_some_iff.1 hl
   obtain ⟨e1,e2⟩:=castL?_eq hxs
   subst e1
   obtain rfl:=show xs=xs' from e2
   have hsub:∀ k b,(sp.setD q none).dr k=some b→k≠q∧sp.dr k=some b:=by
    intro k b hk
    simp only [St.setD] at hk
    by_cases e:k=q
    ·subst e;rw [Ya] at hk;cases hk
    ·rw [Zi _ _ _ _ e] at hk;exact ⟨e,hk⟩
   obtain ⟨τ',D',hp⟩:=Yl h hμ r (sp.setD q none) vs' hl' htm hbx ⟨hlv.1,hlv.2.1,fun k b hk=>hlv.2.2 k b (hsub k b hk).2⟩
   have hc:castL? ty' ty' xs=some xs:=castL?_self ty' xs
   cases hq:(QZ r vs').bx d s with
   | cells cs =>
    have hmk:QZ (.drbb d s j ty'::r) (V.d (.list ty') xs::vs')=((QZ r vs').mintD ⟨ty',xs⟩).setB d s (.cells (cs.set j (.dr (QZ r vs').nd))):=by
     simp only [QZ,hc,hq]
    rw [hmk]
    obtain ⟨D'',u0,bs,e0,e1,e2,hp1⟩:=QBt h hbq (hlv.2.2 q _ hbq) hp
    refine ⟨τ',D'',(hp1.setCell (v:=.dr (QZ r vs').nd) (j:=j) (d:=d) (x:=s) hq (fun b T arr u hd hm hh hu=>?_) rfl).item fun _ _=>rfl⟩
    have hr:=cell b T arr u _ hd hv hm hh hu
    refine .dr _ _ (by show (QZ r vs').nd<D''.N;omega) hr.dr_one fun u' bs' hk=>?_
    have hk:D''.δ (QZ r vs').nd=some (u',bs'):=hk
    rw [e1] at hk
    cases hk
    exact hr.dr_inv.2 u0 bs e0
   | _ =>
    have hmk:QZ (.drbb d s j ty'::r) (V.d (.list ty') xs::vs')=QZ r vs':=by
     simp only [QZ,hc,hq]
    rw [hmk]
    have hp2:Part base dp θ M w μ' sp (QZ r vs') r τ' D':=by
     refine ⟨hp.tm,hp.le,hp.bx,hp.tok,hp.live,hp.tsep,hp.lv,hp.rw,⟨hp.dpr.N,hp.dpr.far,hp.dpr.has,fun k p hk=>?_,hp.dpr.sep⟩⟩
     obtain ⟨k1,k2 | ⟨j',k3,k4⟩⟩:=hp.dpr.from_ k p hk
     ·exact ⟨k1,.inl k2⟩
     ·obtain ⟨bj,hbj⟩:=Option.isSome_iff_exists.1 k4
      exact ⟨k1,.inr ⟨j',k3,by rw [(hsub j' bj hbj).2];rfl⟩⟩
    exact ⟨τ',D',hp2.item fun _ _=>rfl⟩
 | .same d t d0 t0::r,sp,vs,hl,htm,hbx,hlv=>by
  simp only [St.live] at hl
  split at hl
  case h_3=>cases hl
  case h_2 =>
   rename_i k k' hv hv0
   obtain ⟨hk,hl2⟩:=Qn hl
   clear hl
   simp only [Bool.and_eq_true] at hk
   obtain ⟨⟨hkk,hlive⟩,hle1⟩:=hk
   obtain ⟨vs',hl',rfl⟩:=Option.map_eq_some_iff.1 hl2
   obtain rfl:=Nat.eq_of_beq_eq_true hkk
   have hle:=Nat.le_of_ble_eq_true hle1
   obtain ⟨τ',D',hp⟩:=Yl h hμ r sp vs' hl' htm hbx hlv
   obtain ⟨bq,hbq⟩:=Option.isSome_iff_exists.1 hlive
   obtain ⟨u0,bs0,hδ,_⟩:=h.dpi.has k bq (hlv.2.2 k bq hbq)
   refine ⟨τ',D',(hp.set (d:=d) (t:=t) (v:=(QZ r vs').tm d0 t0) (fun hd=>?_) (fun hd=>QnD hle (hp.le d0 t0 (Nat.le_trans hle hd)))).item fun _ _=>rfl⟩
   have h1:=h.tm d t hd
   have h2:=h.tm d0 t0 (Nat.le_trans hle hd)
   rw [← htm,hv] at h1
   rw [← htm,hv0] at h2
   have e:θ d t=θ d0 t0:=(h1.dr_inv.2 u0 bs0 hδ).trans (h2.dr_inv.2 u0 bs0 hδ).symm
   rw [e]
   exact hp.tm d0 t0 (Nat.le_trans hle hd)
  rename_i k k' hv hv0
  obtain ⟨hk,hl2⟩:=Qn hl
  clear hl
  simp only [Bool.and_eq_true] at hk
  obtain ⟨⟨hkk,hlive⟩,hle1⟩:=hk
  obtain ⟨vs',hl',rfl⟩:=Option.map_eq_some_iff.1 hl2
  obtain rfl:=Nat.eq_of_beq_eq_true hkk
  have hle:=Nat.le_of_ble_eq_true hle1
  obtain ⟨τ',D',hp⟩:=Yl h hμ r sp vs' hl' htm hbx hlv
  obtain ⟨o,ho⟩:=h.live k (hlv.1 k hlive)
  refine ⟨τ',D',(hp.set (d:=d) (t:=t) (v:=(QZ r vs').tm d0 t0) (fun hd=>?_) (fun hd=>QnD hle (hp.le d0 t0 (Nat.le_trans hle hd)))).item fun _ _=>rfl⟩
  have h1:=h.tm d t hd
  have h2:=h.tm d0 t0 (Nat.le_trans hle hd)
  rw [← htm,hv] at h1
  rw [← htm,hv0] at h2
  have h1:=h1.raw_inv.2 o ho
  have h2:=h2.raw_inv.2 o ho
  have e:θ d t=θ d0 t0:=by
   unfold Qr7 at h1 h2
   cases o with
   | none=>exact h1.trans h2.symm
   | some reg=>exact h1.trans h2.symm
  rw [e]
  exact hp.tm d0 t0 (Nat.le_trans hle hd)
 | .own d t ty::r,sp,vs,hl,htm,hbx,hlv=>by
  simp only [St.live] at hl
  split at hl
  ·rename_i hv
   obtain ⟨vs',hl',rfl⟩:=Option.map_eq_some_iff.1 hl
   obtain ⟨τ',D',hp⟩:=Yl h hμ r sp vs' hl' htm hbx hlv
   have hc:castL? ty ty []=some ([]:List ty.den):=castL?_self ty []
   have hmk:QZ (.own d t ty::r) (V.own 0 ty []::vs')=(QZ r vs').mint.set d t (.own (QZ r vs').nt ty []):=by
    simp only [QZ,hc]
   rw [hmk]
   have hn:d≤dp→θ d t=.slice none 0 0:=fun hd=>by
    have:=h.tm d t hd
    rw [← htm,hv] at this
    exact this.nils_inv
   obtain ⟨τ2,hp2,_⟩:=Qvz (d:=d) (t:=t) (i:=.own d t ty) (v:=.own (QZ r vs').nt ty []) h sp _ τ' none hp (fun _ h=>h) rfl (.inl rfl) (fun τ hτ hd=>.own _ _ _ _ (by rw [hn hd];exact QcE _ _) (Nat.lt_succ_self _) (fun reg hr=>by
    have hr:τ (QZ r vs').nt=some reg:=hr
    rw [hτ] at hr;cases hr;exact ⟨hn hd,rfl⟩)) rfl
   exact ⟨τ2,D',hp2⟩
  ·rename_i tok ty' xs' hv
   split at hl
   case h_2=>cases hl
   rename_i xs hxs
   obtain ⟨hlive,hl⟩:=Qn hl
   obtain ⟨vs',hl',rfl⟩:=Option.map_eq_some_iff.1 hl
   have hsub:∀ k,(sp.spend tok).lv k=true→sp.lv k=true:=by
    intro k hk
    simp only [St.spend] at hk
    by_cases e:k=tok
    ·subst e;rw [GG] at hk;cases hk
    ·rw [HA _ _ _ _ e] at hk;exact hk
   have hrwsub:∀ k b,(sp.spend tok).rw k=some b→sp.rw k=some b:=by
    intro k b hk
    simp only [St.spend] at hk
    by_cases e:k=tok
    ·subst e;rw [Ya] at hk;cases hk
    ·rw [Zi _ _ _ _ e] at hk;exact hk
   obtain ⟨τ',D',hp⟩:=Yl h hμ r (sp.spend tok) vs' hl' htm hbx ⟨fun k hk=>hlv.1 k (hsub k hk),fun k b hk=>hlv.2.1 k b (hrwsub k b hk),hlv.2.2⟩
   have hc:castL? ty ty xs=some xs:=castL?_self ty xs
   have hmk:QZ (.own d t ty::r) (V.own 0 ty xs::vs')=(QZ r vs').mint.set d t (.own (QZ r vs').nt ty xs):=by
    simp only [QZ,hc]
   rw [hmk]
   obtain ⟨o,ho⟩:=h.live tok (hlv.1 tok hlive)
   have hr:d≤dp→RelV M (.own tok ty' xs') (θ d t):=fun hd=>by
    have:=h.tm d t hd
    rwa [← htm,hv] at this
   have hcell:ty'=ty:=(castL?_eq hxs).1
   obtain ⟨τ2,hp2,_⟩:=Qvz (d:=d) (t:=t) (i:=.own d t ty) (v:=.own (QZ r vs').nt ty xs) h (sp.spend tok) _ τ' o hp hsub rfl (.inr ⟨tok,ho,hlive,by simp only [St.spend];rw [GG]⟩) (fun τ hτ hd=>.own _ _ _ _ (castL?_rel hxs (hr hd).own_inv.1) (Nat.lt_succ_self _) (fun reg hr'=>by
    have hr':τ (QZ r vs').nt=some reg:=hr'
    rw [hτ] at hr'
    cases hr'
    rw [castL?_len hxs,← hcell]
    exact (hr hd).own_inv.2.2 o ho)) rfl
   exact ⟨τ2,D',hp2⟩
  ·cases hl
 | .data d t ty::r,sp,vs,hl,htm,hbx,hlv=>by
  simp only [St.live] at hl
  split at hl
  case h_2=>cases hl
  rename_i x hx
  obtain ⟨vs',hl',rfl⟩:=Option.map_eq_some_iff.1 hl
  obtain ⟨τ',D',hp⟩:=Yl h hμ r sp vs' hl' htm hbx hlv
  rw [htm] at hx
  exact ⟨τ',D',(hp.set (fun hd=>Uh (M:=⟨M.F,μ',τ',_,D'⟩) (show RelU M.F ty x (θ d t) from UJ (M:=M) hx (h.tm d t hd))) (fun _=>WR _ _ _)).item fun _ _=>rfl⟩
 | .box d s n::r,sp,vs,hl,htm,hbx,hlv=>by
  simp only [St.live] at hl
  split at hl
  case h_2=>cases hl
  rename_i cs hb
  obtain ⟨h0,hl⟩:=Qn hl
  simp only [Bool.and_eq_true] at h0
  obtain ⟨vs',hl',rfl⟩:=Option.map_eq_some_iff.1 hl
  obtain ⟨τ',D',hp⟩:=Yl h hμ r sp vs' hl' htm hbx hlv
  refine ⟨τ',D',hp.tm,hp.le,fun d' x hd'=>?_,hp.tok,hp.live,hp.tsep,hp.lv,hp.rw,hp.dpr⟩
  simp only [QZ,St.setB]
  by_cases e:d'=d∧x=s
  ·obtain ⟨rfl,rfl⟩:=e
   rw [Qao]
   rw [hbx] at hb
   obtain ⟨b,T,arr,h1,h2,h3,h4,h5⟩:=h.cells hd' hb
   refine ⟨by rw [Ann.keeps,QgE.2 ⟨rfl,rfl⟩];rfl,b,T,arr,h1,h2,h3,QyZ (Qxu (M:=M) (M':=⟨M.F,μ',τ',_,D'⟩) (.refl _) hμ h4 h0.2),QzZ (QyY h5)⟩
  ·rw [Wl _ _ _ _ _ _ e]
   have hk:Ann.keeps (.box d s n::r) d' x=Ann.keeps r d' x:=by
    rw [Ann.keeps]
    cases hq:Item.isBox d' x (.box d s n) with
    | false=>rfl
    | true=>exact absurd (QgE.1 hq) e
   rw [hk];exact hp.bx d' x hd'
 | .rows d s ty::r,sp,vs,hl,htm,hbx,hlv=>by
  simp only [St.live] at hl
  split at hl
  case h_2=>cases hl
  rename_i ty' xs' hb
  split at hl
  case h_2=>cases hl
  rename_i xs hxs
  obtain ⟨vs',hl',rfl⟩:=Option.map_eq_some_iff.1 hl
  obtain ⟨τ',D',hp⟩:=Yl h hμ r sp vs' hl' htm hbx hlv
  have hc:castL? ty ty xs=some xs:=castL?_self ty xs
  have hmk:QZ (.rows d s ty::r) (V.d (.list ty) xs::vs')=(QZ r vs').setB d s (.rows ty xs):=by
   simp only [QZ,hc]
  rw [hmk]
  refine ⟨τ',D',hp.tm,hp.le,fun d' x hd'=>?_,hp.tok,hp.live,hp.tsep,hp.lv,hp.rw,hp.dpr⟩
  simp only [St.setB]
  by_cases e:d'=d∧x=s
  ·obtain ⟨rfl,rfl⟩:=e
   rw [Qao]
   rw [hbx] at hb
   obtain ⟨e1,e2⟩:=castL?_eq hxs
   subst e1
   subst e2
   obtain ⟨b,T,arr,h1,h2,h3,h4,h5,h6⟩:=h.rows hd' hb
   exact ⟨by rw [Ann.keeps,Qsq.2 ⟨rfl,rfl⟩];rfl,b,T,arr,h1,h2,h3,h4,h5,h6⟩
  ·rw [Wl _ _ _ _ _ _ e]
   have hk:Ann.keeps (.rows d s ty::r) d' x=Ann.keeps r d' x:=by
    rw [Ann.keeps]
    cases hq:Item.isBox d' x (.rows d s ty) with
    | false=>rfl
    | true=>exact absurd (Qsq.1 hq) e
   rw [hk];exact hp.bx d' x hd'
 | .boxd d s ty::r,sp,vs,hl,htm,hbx,hlv=>by
  simp only [St.live] at hl
  split at hl
  case h_2=>cases hl
  rename_i cs hb
  split at hl
  case h_2=>cases hl
  rename_i y hy
  obtain ⟨vs',hl',rfl⟩:=Option.map_eq_some_iff.1 hl
  obtain ⟨τ',D',hp⟩:=Yl h hμ r sp vs' hl' htm hbx hlv
  refine ⟨τ',D',hp.tm,hp.le,fun d' x hd'=>?_,hp.tok,hp.live,hp.tsep,hp.lv,hp.rw,hp.dpr⟩
  simp only [QZ,St.setB]
  by_cases e:d'=d∧x=s
  ·obtain ⟨rfl,rfl⟩:=e
   rw [Qao]
   rw [hbx] at hb
   obtain ⟨b,T,arr,h1,h2,h3,h4,h5⟩:=h.cells hd' hb
   refine ⟨by rw [Ann.keeps,Qsp.2 ⟨rfl,rfl⟩];rfl,b,T,arr,h1,h2,h3,Yf (M:=⟨M.F,μ',τ',_,D'⟩) (show RelD M.F ty y arr.toList from V5 (M:=M) hy h4),GP _ _ _⟩
  ·rw [Wl _ _ _ _ _ _ e]
   have hk:Ann.keeps (.boxd d s ty::r) d' x=Ann.keeps r d' x:=by
    rw [Ann.keeps]
    cases hq:Item.isBox d' x (.boxd d s ty) with
    | false=>rfl
    | true=>exact absurd (Qsp.1 hq) e
   rw [hk];exact hp.bx d' x hd'
 | .mapb d s k v::r,sp,vs,hl,htm,hbx,hlv=>by
  simp only [St.live] at hl
  split at hl
  case h_2=>cases hl
  rename_i k' v' es' hb
  split at hl
  case h_2=>cases hl
  rename_i es hes
  obtain ⟨vs',hl',rfl⟩:=Option.map_eq_some_iff.1 hl
  obtain ⟨τ',D',hp⟩:=Yl h hμ r sp vs' hl' htm hbx hlv
  have hc:castE? k v k v es=some es:=castE?_self k v es
  have hmk:QZ (.mapb d s k v::r) (V.d (.map k v) es::vs')=(QZ r vs').setB d s (.map k v es):=by
   simp only [QZ,hc]
  rw [hmk]
  refine ⟨τ',D',hp.tm,hp.le,fun d' x hd'=>?_,hp.tok,hp.live,hp.tsep,hp.lv,hp.rw,hp.dpr⟩
  simp only [St.setB]
  by_cases e:d'=d∧x=s
  ·obtain ⟨rfl,rfl⟩:=e
   rw [Qao]
   rw [hbx] at hb
   obtain ⟨e1,e2,e3⟩:=castE?_eq hes
   subst e1
   subst e2
   subst e3
   obtain ⟨b,ms,c,h1,h2,h3,h4⟩:=h.maps hd' hb
   exact ⟨by rw [Ann.keeps,Qur.2 ⟨rfl,rfl⟩];rfl,b,ms,c,h1,h2,h3,h4⟩
  ·rw [Wl _ _ _ _ _ _ e]
   have hk:Ann.keeps (.mapb d s k v::r) d' x=Ann.keeps r d' x:=by
    rw [Ann.keeps]
    cases hq:Item.isBox d' x (.mapb d s k v) with
    | false=>rfl
    | true=>exact absurd (Qur.1 hq) e
   rw [hk];exact hp.bx d' x hd'
 | .raw d t ty::r,sp,vs,hl,htm,hbx,hlv=>by
  simp only [St.live] at hl
  split at hl
  ·rename_i hv
   obtain ⟨vs',hl',rfl⟩:=Option.map_eq_some_iff.1 hl
   obtain ⟨τ',D',hp⟩:=Yl h hμ r sp vs' hl' htm hbx hlv
   have hc:castL? ty ty []=some ([]:List ty.den):=castL?_self ty []
   have hmk:QZ (.raw d t ty::r) (V.own 0 ty []::vs')=((QZ r vs').mint.set d t (.raw (QZ r vs').nt)).setR (QZ r vs').nt (some ⟨ty,[]⟩):=by
    simp only [QZ,hc];rfl
   rw [hmk]
   have hn:d≤dp→θ d t=.slice none 0 0:=fun hd=>by
    have:=h.tm d t hd
    rw [← htm,hv] at this
    exact this.nils_inv
   obtain ⟨τ2,hp2,hτ2⟩:=Qvz (d:=d) (t:=t) (i:=.raw d t ty) (v:=.raw (QZ r vs').nt) h sp _ τ' none hp (fun _ h=>h) rfl (.inl rfl) (fun τ hτ hd=>.raw _ _ (Nat.lt_succ_self _) (fun reg hr=>by
    have hr:τ (QZ r vs').nt=some reg:=hr
    rw [hτ] at hr;cases hr;exact hn hd)) rfl
   refine ⟨τ2,D',QzY hp2 ⟨by simp only [St.mint,St.set];rw [GG],fun _=>rfl,fun reg hr=>?_⟩⟩
   rw [hτ2] at hr;cases hr
  ·rename_i tok hv
   split at hl
   case h_2=>cases hl
   rename_i ty' xs' hb
   split at hl
   case h_2=>cases hl
   rename_i xs hxs
   obtain ⟨hlive,hl⟩:=Qn hl
   obtain ⟨vs',hl',rfl⟩:=Option.map_eq_some_iff.1 hl
   have hsub:∀ k,(sp.spend tok).lv k=true→sp.lv k=true:=by
    intro k hk
    simp only [St.spend] at hk
    by_cases e:k=tok
    ·subst e;rw [GG] at hk;cases hk
    ·rw [HA _ _ _ _ e] at hk;exact hk
   have hrwsub:∀ k b,(sp.spend tok).rw k=some b→sp.rw k=some b:=by
    intro k b hk
    simp only [St.spend] at hk
    by_cases e:k=tok
    ·subst e;rw [Ya] at hk;cases hk
    ·rw [Zi _ _ _ _ e] at hk;exact hk
   obtain ⟨τ',D',hp⟩:=Yl h hμ r (sp.spend tok) vs' hl' htm hbx ⟨fun k hk=>hlv.1 k (hsub k hk),fun k b hk=>hlv.2.1 k b (hrwsub k b hk),hlv.2.2⟩
   have hc:castL? ty ty xs=some xs:=castL?_self ty xs
   have hmk:QZ (.raw d t ty::r) (V.own 0 ty xs::vs')=((QZ r vs').mint.set d t (.raw (QZ r vs').nt)).setR (QZ r vs').nt (some ⟨ty,xs⟩):=by
    simp only [QZ,hc];rfl
   rw [hmk]
   obtain ⟨o,ho⟩:=h.live tok (hlv.1 tok hlive)
   have hr:d≤dp→RelV M (.raw tok) (θ d t):=fun hd=>by
    have:=h.tm d t hd
    rwa [← htm,hv] at this
   obtain ⟨e1,e2⟩:=castL?_eq hxs
   subst e1
   obtain rfl:=show xs=xs' from e2
   obtain ⟨_,r2,r3⟩:=h.rw tok _ (hlv.2.1 tok _ hb)
   obtain ⟨τ2,hp2,hτ2⟩:=Qvz (d:=d) (t:=t) (i:=.raw d t ty') (v:=.raw (QZ r vs').nt) h (sp.spend tok) _ τ' o hp hsub rfl (.inr ⟨tok,ho,hlive,by simp only [St.spend];rw [GG]⟩) (fun τ hτ hd=>.raw _ _ (Nat.lt_succ_self _) (fun o' hr'=>by
    have hr':τ (QZ r vs').nt=some o':=hr'
    rw [hτ] at hr'
    cases hr'
    exact (hr hd).raw_inv.2 o ho)) rfl
   refine ⟨τ2,D',QzY hp2 ⟨by simp only [St.mint,St.set];rw [GG],fun hh=>r2 ?_,fun reg hr=>r3 reg ?_⟩⟩
   ·rw [hτ2] at hh;rw [ho];exact hh
   ·rw [hτ2] at hr;rw [ho];exact hr
  ·cases hl
 | .ownb d s j ty::r,sp,vs,hl,htm,hbx,hlv=>by
  simp only [St.live] at hl
  split at hl
  case h_2=>cases hl
  rename_i cs0 hb
  rw [hbx] at hb
  have cell:∀ (b:Nat) (T:TypeId) (arr:Array Value) (u:Value) (c:V),d≤dp→cs0[j]? = some c→M.μ d s=some (b,0)→w.heap[b]? = some (.cells arr T (0,0))→arr.toList[j]? = some u→RelV M c u:=by
   intro b T arr u c hd hc hm hh hu
   obtain ⟨b',T',arr',h1,h2,h3,h4,h5⟩:=h.cells hd hb
   rw [hm] at h1;cases h1
   rw [hh] at h3;cases h3
   exact h4.at_ j c u hc hu
  split at hl
  ·rename_i hv
   obtain ⟨vs',hl',rfl⟩:=Option.map_eq_some_iff.1 hl
   obtain ⟨τ',D',hp⟩:=Yl h hμ r sp vs' hl' htm hbx hlv
   have hc:castL? ty ty []=some ([]:List ty.den):=castL?_self ty []
   cases hq:(QZ r vs').bx d s with
   | cells cs =>
    have hmk:QZ (.ownb d s j ty::r) (V.own 0 ty []::vs')=(QZ r vs').mint.setB d s (.cells (cs.set j (.own (QZ r vs').nt ty []))):=by
     simp only [QZ,hc,hq]
    rw [hmk]
    exact Qyv h sp _ τ' none hp (fun _ h=>h) rfl (.inl rfl) hq (fun τ b T arr u hτ hd hm hh hu=>by
     have hn:u=.slice none 0 0:=(cell b T arr u _ hd hv hm hh hu).nils_inv
     exact .own _ _ _ _ (by rw [hn];exact QcE _ _) (Nat.lt_succ_self _) (fun reg hr=>by
      have hr:τ (QZ r vs').nt=some reg:=hr
      rw [hτ] at hr;cases hr;exact ⟨hn,rfl⟩)) rfl
   | _ =>
    have hmk:QZ (.ownb d s j ty::r) (V.own 0 ty []::vs')=QZ r vs':=by
     simp only [QZ,hc,hq]
    rw [hmk]
    exact ⟨τ',D',hp.item fun _ _=>rfl⟩
  ·rename_i tok ty' xs' hv
   split at hl
   case h_2=>cases hl
   rename_i xs hxs
   obtain ⟨hlive,hl⟩:=Qn hl
   obtain ⟨vs',hl',rfl⟩:=Option.map_eq_some_iff.1 hl
   have hsub:∀ k,(sp.spend tok).lv k=true→sp.lv k=true:=by
    intro k hk
    simp only [St.spend] at hk
    by_cases e:k=tok
    ·subst e;rw [GG] at hk;cases hk
    ·rw [HA _ _ _ _ e] at hk;exact hk
   have hrwsub:∀ k b,(sp.spend tok).rw k=some b→sp.rw k=some b:=by
    intro k b hk
    simp only [St.spend] at hk
    by_cases e:k=tok
    ·subst e;rw [Ya] at hk;cases hk
    ·rw [Zi _ _ _ _ e] at hk;exact hk
   obtain ⟨τ',D',hp⟩:=Yl h hμ r (sp.spend tok) vs' hl' htm hbx ⟨fun k hk=>hlv.1 k (hsub k hk),fun k b hk=>hlv.2.1 k b (hrwsub k b hk),hlv.2.2⟩
   have hc:castL? ty ty xs=some xs:=castL?_self ty xs
   obtain ⟨o,ho⟩:=h.live tok (hlv.1 tok hlive)
   have hcell:ty'=ty:=(castL?_eq hxs).1
   have hp1:Part base dp θ M w μ' sp (QZ r vs') r τ' D' :=
    ⟨hp.tm,hp.le,hp.bx,fun k o hk=>(by
     obtain ⟨h1,h2,h3⟩:=hp.tok k o hk
     refine ⟨h1,h2,?_⟩
     rcases h3 with h3 | ⟨j,h4,h5⟩
     ·exact .inl h3
     ·exact .inr ⟨j,h4,hsub j h5⟩),hp.live,hp.tsep,hp.lv,hp.rw,hp.dpr⟩
   cases hq:(QZ r vs').bx d s with
   | cells cs =>
    have hmk:QZ (.ownb d s j ty::r) (V.own 0 ty xs::vs')=(QZ r vs').mint.setB d s (.cells (cs.set j (.own (QZ r vs').nt ty xs))):=by
     simp only [QZ,hc,hq]
    rw [hmk]
    exact Qyv h (sp.spend tok) _ τ' o hp hsub rfl (.inr ⟨tok,ho,hlive,by simp only [St.spend];rw [GG]⟩) hq (fun τ b T arr u hτ hd hm hh hu=>by
     have hr:=cell b T arr u _ hd hv hm hh hu
     exact .own _ _ _ _ (castL?_rel hxs hr.own_inv.1) (Nat.lt_succ_self _) (fun reg hr'=>by
      have hr':τ (QZ r vs').nt=some reg:=hr'
      rw [hτ] at hr'
      cases hr'
      rw [castL?_len hxs,← hcell]
      exact hr.own_inv.2.2 o ho)) rfl
   | _ =>
    have hmk:QZ (.ownb d s j ty::r) (V.own 0 ty xs::vs')=QZ r vs':=by
     simp only [QZ,hc,hq]
    rw [hmk]
    exact ⟨τ',D',hp1.item fun _ _=>rfl⟩
  ·cases hl
 | .drb d t ty::r,sp,vs,hl,htm,hbx,hlv=>by
  simp only [St.live] at hl
  split at hl
  case h_3=>cases hl
  case h_2 =>
   rename_i hv
   obtain ⟨vs',hl',rfl⟩:=Option.map_eq_some_iff.1 hl
   obtain ⟨τ',D',hp⟩:=Yl h hμ r sp vs' hl' htm hbx hlv
   have hz0:∀ z:Value,RelV M .nils z→z=.slice none 0 0:=fun z hz=>by cases hz;rfl
   have hc:castL? ty ty ([]:List ty.den)=some []:=castL?_self ty []
   have hmk:QZ (.drb d t ty::r) (V.d (.list ty) ([]:List ty.den)::vs')=((QZ r vs').mintD ⟨ty,[]⟩).set d t (.dr (QZ r vs').nd):=by
    simp only [QZ,hc]
   rw [hmk]
   have hδ':∀ {k:Nat} {p:Value × List Nat},(if k=(QZ r vs').nd then some (Value.slice none 0 0,[]) else D'.δ k)=some p→(k=(QZ r vs').nd∧p=(Value.slice none 0 0,[]))∨(k≠(QZ r vs').nd∧D'.δ k=some p):=by
    intro k p hk
    split at hk
    ·rename_i e;exact .inl ⟨e,(Option.some.inj hk).symm⟩
    ·rename_i e;exact .inr ⟨e,hk⟩
   have hle:D'.le ⟨fun k=>if k=(QZ r vs').nd then some (Value.slice none 0 0,[]) else D'.δ k,(QZ r vs').nd+1⟩:=by
    refine ⟨by show D'.N≤_;rw [hp.dpr.N];exact Nat.le_succ _,fun k u' bs' hlt hk=>?_⟩
    rw [hp.dpr.N] at hlt
    rcases hδ' hk with ⟨e,_⟩ | ⟨_,e⟩
    ·omega
    ·exact ⟨_,e⟩
   have hp1:Part base dp θ M w μ' sp ((QZ r vs').mintD ⟨ty,[]⟩) r τ' ⟨fun k=>if k=(QZ r vs').nd then some (Value.slice none 0 0,[]) else D'.δ k,(QZ r vs').nd+1⟩:=by
    refine ⟨fun d' t' hd'=>RelV.moreTok (Nat.le_refl _) (fun _ _ _ h=>h) hle (hp.tm d' t' hd'),hp.le,?_,fun k o hk=>?_,hp.live,hp.tsep,hp.lv,hp.rw,?_⟩
    ·intro d' x hd'
     have:=hp.bx d' x hd'
     revert this
     show (match (QZ r vs').bx d' x with | .none=>_ | .cells cs=>_ | .rows ty xs=>_ | .map k v es=>_)→(match (QZ r vs').bx d' x with | .none=>_ | .cells cs=>_ | .rows ty xs=>_ | .map k v es=>_)
     cases (QZ r vs').bx d' x with
     | cells cs =>
      rintro ⟨hk,b,T,arr,h1,h2,h3,h4,h5⟩
      exact ⟨hk,b,T,arr,h1,h2,h3,h4.moreTok (Nat.le_refl _) (fun _ _ _ h=>h) hle,h5⟩
     | _=>exact fun h=>h
    ·exact hp.tok k o hk
    ·refine ⟨rfl,fun k hk=>?_,fun k b hk=>?_,fun k p hk=>?_,fun k k' u1 u2 b1 b2 c hk hk' hc hc'=>?_⟩
     ·have hk:(QZ r vs').nd+1≤k:=hk
      simp only [St.mintD]
      rw [Zi _ _ _ _ (by omega)]
      exact hp.dpr.far k (by omega)
     ·simp only [St.mintD] at hk
      by_cases e:k=(QZ r vs').nd
      ·subst e
       rw [Ya] at hk
       cases hk
       exact ⟨_,_,if_pos rfl,none,0,rfl,Nat.le_refl _,Nat.zero_le _,fun _=>rfl,.inl ⟨rfl,rfl⟩⟩
      ·rw [Zi _ _ _ _ e] at hk
       obtain ⟨u',bs',k1,k2⟩:=hp.dpr.has k b hk
       exact ⟨u',bs',by simp only;rw [if_neg e];exact k1,k2⟩
     ·rcases hδ' hk with ⟨e,e'⟩ | ⟨_,e⟩
      ·subst e'
       exact ⟨by show k<(QZ r vs').nd+1;omega,.inl rfl⟩
      ·obtain ⟨k1,k2⟩:=hp.dpr.from_ k p e
       exact ⟨by show k<(QZ r vs').nd+1;omega,k2⟩
     ·rcases hδ' hk with ⟨e1,e⟩ | ⟨_,e⟩<;>rcases hδ' hk' with ⟨e1',e'⟩ | ⟨_,e'⟩
      ·exact e1.trans e1'.symm
      ·cases e;cases hc
      ·cases e';cases hc'
      ·exact hp.dpr.sep k k' _ _ _ _ c e e' hc hc'
   refine ⟨τ',_,(hp1.set (d:=d) (t:=t) (v:=.dr (QZ r vs').nd) (fun hd=>.dr _ _ (Nat.lt_succ_self _) (by have:=h.tm d t hd;rw [← htm,hv] at this;rw [hz0 _ this];rfl) fun u' bs' hk=>?_) (fun _=>rfl)).item fun _ _=>rfl⟩
   rcases hδ' hk with ⟨_,e⟩ | ⟨e,_⟩
   ·cases e
    have:=h.tm d t hd
    rw [← htm,hv] at this
    exact hz0 _ this
   ·exact absurd rfl e
  rename_i q hv
  split at hl
  case h_2=>cases hl
  rename_i ty' xs' hb
  split at hl
  case h_2=>cases hl
  rename_i xs hxs
  obtain ⟨vs',hl',rfl⟩:=Option.map_eq_some_iff.1 hl
  obtain ⟨e1,e2⟩:=castL?_eq hxs
  subst e1
  obtain rfl:=show xs=xs' from e2
  have hsub:∀ k b,(sp.setD q none).dr k=some b→k≠q∧sp.dr k=some b:=by
   intro k b hk
   simp only [St.setD] at hk
   by_cases e:k=q
   ·subst e;rw [Ya] at hk;cases hk
   ·rw [Zi _ _ _ _ e] at hk;exact ⟨e,hk⟩
  obtain ⟨τ',D',hp⟩:=Yl h hμ r (sp.setD q none) vs' hl' htm hbx ⟨hlv.1,hlv.2.1,fun k b hk=>hlv.2.2 k b (hsub k b hk).2⟩
  have hc:castL? ty' ty' xs=some xs:=castL?_self ty' xs
  have hmk:QZ (.drb d t ty'::r) (V.d (.list ty') xs::vs')=((QZ r vs').mintD ⟨ty',xs⟩).set d t (.dr (QZ r vs').nd):=by
   simp only [QZ,hc]
  rw [hmk]
  have hstq:=hlv.2.2 q _ hb
  obtain ⟨u,bs,hδ,hdeep⟩:=h.dpi.has q _ hstq
  have hδ':∀ {k:Nat} {p:Value × List Nat},(if k=(QZ r vs').nd then some (u,bs) else D'.δ k)=some p→(k=(QZ r vs').nd∧p=(u,bs))∨(k≠(QZ r vs').nd∧D'.δ k=some p):=by
   intro k p hk
   split at hk
   ·rename_i e;exact .inl ⟨e,(Option.some.inj hk).symm⟩
   ·rename_i e;exact .inr ⟨e,hk⟩
  have hle:D'.le ⟨fun k=>if k=(QZ r vs').nd then some (u,bs) else D'.δ k,(QZ r vs').nd+1⟩:=by
   refine ⟨by show D'.N≤_;rw [hp.dpr.N];exact Nat.le_succ _,fun k u' bs' hlt hk=>?_⟩
   rw [hp.dpr.N] at hlt
   rcases hδ' hk with ⟨e,_⟩ | ⟨_,e⟩
   ·omega
   ·exact ⟨_,e⟩
  have hp1:Part base dp θ M w μ' sp ((QZ r vs').mintD ⟨ty',xs⟩) r τ' ⟨fun k=>if k=(QZ r vs').nd then some (u,bs) else D'.δ k,(QZ r vs').nd+1⟩:=by
   refine ⟨fun d' t' hd'=>RelV.moreTok (Nat.le_refl _) (fun _ _ _ h=>h) hle (hp.tm d' t' hd'),hp.le,?_,fun k o hk=>?_,hp.live,hp.tsep,hp.lv,hp.rw,?_⟩
   ·intro d' x hd'
    have:=hp.bx d' x hd'
    revert this
    show (match (QZ r vs').bx d' x with | .none=>_ | .cells cs=>_ | .rows ty xs=>_ | .map k v es=>_)→(match (QZ r vs').bx d' x with | .none=>_ | .cells cs=>_ | .rows ty xs=>_ | .map k v es=>_)
    cases (QZ r vs').bx d' x with
    | cells cs =>
     rintro ⟨hk,b,T,arr,h1,h2,h3,h4,h5⟩
     exact ⟨hk,b,T,arr,h1,h2,h3,h4.moreTok (Nat.le_refl _) (fun _ _ _ h=>h) hle,h5⟩
    | _=>exact fun h=>h
   ·exact hp.tok k o hk
   ·refine ⟨rfl,fun k hk=>?_,fun k b hk=>?_,fun k p hk=>?_,fun k k' u1 u2 b1 b2 c hk hk' hc hc'=>?_⟩
    ·have hk:(QZ r vs').nd+1≤k:=hk
     simp only [St.mintD]
     rw [Zi _ _ _ _ (by omega)]
     exact hp.dpr.far k (by omega)
    ·simp only [St.mintD] at hk
     by_cases e:k=(QZ r vs').nd
     ·subst e
      rw [Ya] at hk
      cases hk
      exact ⟨u,bs,if_pos rfl,hdeep⟩
     ·rw [Zi _ _ _ _ e] at hk
      obtain ⟨u',bs',k1,k2⟩:=hp.dpr.has k b hk
      exact ⟨u',bs',by simp only;rw [if_neg e];exact k1,k2⟩
    ·rcases hδ' hk with ⟨e,e'⟩ | ⟨_,e⟩
     ·subst e'
      exact ⟨by show k<(QZ r vs').nd+1;omega,.inr ⟨q,hδ,by rw [hb];rfl⟩⟩
     ·obtain ⟨k1,k4 | ⟨j,k2,k3⟩⟩:=hp.dpr.from_ k p e
      ·exact ⟨by show k<(QZ r vs').nd+1;omega,.inl k4⟩
      obtain ⟨bj,hbj⟩:=Option.isSome_iff_exists.1 k3
      exact ⟨by show k<(QZ r vs').nd+1;omega,.inr ⟨j,k2,by rw [(hsub j bj hbj).2];rfl⟩⟩
    ·have far:∀ {k:Nat} {u2:Value} {b2:List Nat},D'.δ k=some (u2,b2)→c∈b2→c∈bs→False:=by
      intro k u2 b2 hk hc2 hc1
      obtain ⟨_,k4 | ⟨j,k2,k3⟩⟩:=hp.dpr.from_ k _ hk
      ·have k4:b2=[]:=k4
       rw [k4] at hc2;cases hc2
      obtain ⟨bj,hbj⟩:=Option.isSome_iff_exists.1 k3
      exact (hsub j bj hbj).1 (h.dpi.sep j q _ _ _ _ c k2 hδ hc2 hc1)
     rcases hδ' hk with ⟨e1,e⟩ | ⟨_,e⟩<;>rcases hδ' hk' with ⟨e1',e'⟩ | ⟨_,e'⟩
     ·exact e1.trans e1'.symm
     ·cases e;exact (far e' hc' hc).elim
     ·cases e';exact (far e hc hc').elim
     ·exact hp.dpr.sep k k' _ _ _ _ c e e' hc hc'
  refine ⟨τ',_,(hp1.set (d:=d) (t:=t) (v:=.dr (QZ r vs').nd) (fun hd=>.dr _ _ (Nat.lt_succ_self _) (by have:=h.tm d t hd;rw [← htm,hv] at this;exact this.dr_one) fun u' bs' hk=>?_) (fun _=>rfl)).item fun _ _=>rfl⟩
  rcases hδ' hk with ⟨_,e⟩ | ⟨e,_⟩
  ·cases e
   have:=h.tm d t hd
   rw [← htm,hv] at this
   exact this.dr_inv.2 u bs hδ
  ·exact absurd rfl e
theorem Qz0 (h:Rel P base w0 dp st θ M w) {A:Ann} {vs:List V} (hl:St.live A st A=some vs):∃ M',Rel P base w0 dp { QZ A vs with gl:=w0.gl } θ M' w:=by
 obtain ⟨τ',D',hp⟩:=Yl (μ':=fun d s=>if A.keeps d s=true then M.μ d s else none) h (fun d s b hk hb=>by rw [if_pos hk];exact hb) A st vs hl rfl rfl ⟨fun _ h=>h,fun _ _ h=>h,fun _ _ h=>h⟩
 have hμ:∀ {d s:Nat} {b:Nat × Nat},(if A.keeps d s=true then M.μ d s else none)=some b→M.μ d s=some b:=by
  intro d s b hm
  split at hm
  ·exact hm
  ·cases hm
 refine ⟨⟨M.F,fun d s=>if A.keeps d s=true then M.μ d s else none,τ',(QZ A vs).nt,D'⟩,?_⟩
 exact {
  F:=h.F
  tm:=hp.tm
  le:=hp.le
  bx:=by
   intro d s hd
   have:=hp.bx d s hd
   revert this
   cases (QZ A vs).bx d s with
   | none =>
    intro this
    show (if A.keeps d s=true then M.μ d s else none)=none
    rw [if_neg (by rw [this];decide)]
   | cells cs =>
    rintro ⟨hk,b,T,arr,h1,h2,h3,h4,h5⟩
    exact ⟨b,T,arr,by show (if A.keeps d s=true then M.μ d s else none)=_;rw [if_pos hk];exact h1,h2,h3,h4,h5⟩
   | rows ty xs =>
    rintro ⟨hk,b,T,arr,h1,h2,h3,h4,h5,h6⟩
    exact ⟨b,T,arr,by show (if A.keeps d s=true then M.μ d s else none)=_;rw [if_pos hk];exact h1,h2,h3,h4,h5,h6⟩
   | map k v es =>
    rintro ⟨hk,b,ms,c,h1,h2,h3,h4⟩
    exact ⟨b,ms,c,by show (if A.keeps d s=true then M.μ d s else none)=_;rw [if_pos hk];exact h1,h2,h3,h4⟩
  deep:=by
   intro d s hd
   simp only [h.deep d s hd]
   split<;>rfl
  sep:=fun d s d' s' b n n' h1 h2=>h.sep d s d' s' b n n' (hμ h1) (hμ h2)
  Fbox:=fun d s b n ad h1 h2=>h.Fbox d s b n ad (hμ h1) h2
  tok:=by
   intro k o hk
   obtain ⟨h1,h2,h3⟩:=hp.tok k o hk
   refine ⟨h1,h2,fun reg hr=>?_⟩
   subst hr
   rcases h3 with h3 | ⟨j,h4,_⟩
   ·cases h3
   ·exact (h.tok j _ h4).2.2 reg rfl
  live:=hp.live
  tsep:=hp.tsep
  tbox:=by
   intro k reg d s b n hk hm
   obtain ⟨_,_,h3⟩:=hp.tok k _ hk
   rcases h3 with h3 | ⟨j,h4,_⟩
   ·cases h3
   ·exact h.tbox j reg d s b n h4 (hμ hm)
  N:=rfl
  lv:=hp.lv
  hb:=h.hb
  below:=h.below
  F0:=h.F0
  Fnew:=h.Fnew
  gl:=rfl
  rw:=hp.rw
  dpi:=by
   refine ⟨hp.dpr.N,hp.dpr.far,hp.dpr.has,fun k u bs hk=>?_,fun k u bs c hk hc=>?_,hp.dpr.sep⟩
   ·obtain ⟨_,hj0 | ⟨j,hj,_⟩⟩:=hp.dpr.from_ k _ hk
    ·have hj0:bs=[]:=hj0
     rw [hj0];exact List.nodup_nil
    exact h.dpi.nodup j u bs hj
   ·obtain ⟨_,hj0 | ⟨j,hj,_⟩⟩:=hp.dpr.from_ k _ hk
    ·have hj0:bs=[]:=hj0
     rw [hj0] at hc;cases hc
    obtain ⟨r1,r2,r3,r4,r5⟩:=h.dpi.blk j u bs c hj hc
    refine ⟨r1,r2,r3,fun d s n hm=>r4 d s n (hμ hm),fun k' reg hr=>?_⟩
    obtain ⟨_,_,h3⟩:=hp.tok k' _ hr
    rcases h3 with h3 | ⟨j',h4,_⟩
    ·cases h3
    ·exact r5 j' reg h4 }
end
end Go.Ab
