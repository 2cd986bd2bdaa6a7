import Derived.Test.YtkabjoifaffddaaGreatAb14
namespace Go.Ab
noncomputable section
variable {R:Type}
section
variable {P:Program} {base:Base} {w0:Orig} {dp nn:Nat} {st:St} {θ:Nat→Nat→Value} {M:Me} {a:Act} {w:World}
theorem Qgh (d:Nat):∀ (i:Nat) (vs:List V) (tm:Nat→Nat→V) (d' t:Nat),d'≠d→QhF d i vs tm d' t=tm d' t
 | _,[],_,_,_,_=>rfl
 | i,v::vs,tm,d',t,h=>by
  simp only [QhF]
  rw [QbN _ _ _ _ _ _ (fun e=>h e.1)]
  exact Qgh d (i+1) vs tm d' t h
theorem E0 (d:Nat):∀ (i:Nat) (vs:List V) (tm:Nat→Nat→V) (t:Nat),QhF d i vs tm d t=if i≤t then (match vs[t - i]? with | some v=>v | none=>tm d t) else tm d t
 | i,[],tm,t=>by simp [QhF]
 | i,v::vs,tm,t=>by
  simp only [QhF]
  by_cases e:t=i
  ·subst e;rw [Qju];simp
  ·rw [QbN _ _ _ _ _ _ (fun h=>e h.2),E0 d (i+1) vs tm t]
   by_cases h1:i+1≤t
   ·rw [if_pos h1,if_pos (by omega)]
    have:t - i=(t - (i+1))+1:=by omega
    rw [this,List.getElem?_cons_succ]
   ·rw [if_neg h1,if_neg (by omega)]
theorem UL (d:Nat) (tm:Nat→Nat→V) (d' t:Nat):Qr5 d tm d' t=if d'=d then .any else tm d' t:=by
 unfold Qr5
 by_cases e:d'=d
 ·subst e;rw [Nat.beq_refl,if_pos rfl];rfl
 ·rw [HQ e,if_neg e];rfl
theorem Qk2 (d:Nat) (bx:Nat→Nat→Box) (d' t:Nat):Qr6 d bx d' t=if d'=d then .none else bx d' t:=by
 unfold Qr6
 by_cases e:d'=d
 ·subst e;rw [Nat.beq_refl,if_pos rfl];rfl
 ·rw [HQ e,if_neg e];rfl
def QcJ (fn:Func) (vals:Array Value):Act:={ tmps:=vals++Array.replicate (fn.ntmps - vals.size) undef,defers:=[] }
theorem QmJ (fn:Func) (vals:Array Value) (t:Nat):(QcJ fn vals).tmps.getD t undef=vals.getD t undef:=by
 simp only [QcJ,Array.getD_eq_getD_getElem?]
 by_cases h:t<vals.size
 ·rw [Array.getElem?_append_left h]
 ·rw [Array.getElem?_append_right (by omega),Array.getElem?_eq_none (by omega:vals.size≤t)]
  by_cases h2:t - vals.size<fn.ntmps - vals.size
  ·simp [h2]
  ·rw [Array.getElem?_eq_none (by simp;omega)]
theorem Qza (h:Rel P base w0 dp st θ M w) {fn:Func} {args:List V} {vals:List Value} (hlen:args.length=vals.length) (hr:∀ (i:Nat) c u,args[i]? = some c→vals[i]? = some u→RelV M c u) (hle:V.le.leL dp args=true) (hn:args.length≤fn.ntmps) :
  RelA P base w0 (dp+1) fn.ntmps (XU st (dp+1) args) θ M (QcJ fn vals.toArray) w:=by
 refine ⟨⟨h.F,?_,?_,?_,fun d s hd=>h.deep d s (by omega),h.sep,h.Fbox,h.tok,h.live,h.tsep,h.tbox,h.N,h.lv,h.hb,h.below,h.F0,h.Fnew,h.gl,h.rw,h.dpi⟩,?_,rfl⟩
 ·intro d t hd
  simp only [XU,thA]
  by_cases e:d=dp+1
  ·subst e
   rw [if_pos rfl,E0,if_pos (Nat.zero_le _),UL,if_pos rfl,QmJ]
   simp only [Nat.sub_zero]
   cases hc:args[t]? with
   | none=>exact .any _
   | some c =>
    have hlt:t<vals.length:=by rw [← hlen];exact (List.getElem?_eq_some_iff.1 hc).1
    have hu:vals[t]? = some vals[t]:=List.getElem?_eq_getElem hlt
    have:vals.toArray.getD t undef=vals[t]:=by simp [Array.getD_eq_getD_getElem?,hu]
    rw [this]
    exact hr t c _ hc hu
  ·rw [if_neg e,Qgh _ _ _ _ _ _ e,UL,if_neg e]
   exact h.tm d t (by omega)
 ·intro d t hd
  simp only [XU]
  by_cases e:d=dp+1
  ·subst e
   rw [E0,if_pos (Nat.zero_le _),UL,if_pos rfl]
   simp only [Nat.sub_zero]
   cases hc:args[t]? with
   | none=>rfl
   | some c=>exact QnD (by omega) (VT hle hc)
  ·rw [Qgh _ _ _ _ _ _ e,UL,if_neg e]
   exact h.le d t (by omega)
 ·intro d s hd
  simp only [XU]
  rw [Qk2]
  by_cases e:d=dp+1
  ·rw [if_pos e];exact h.deep d s (by omega)
  ·rw [if_neg e];exact h.bx d s (by omega)
 ·simp only [QcJ,Array.size_append,List.size_toArray,Array.size_replicate]
  omega
def Me.leave (M:Me) (d:Nat) (w:World):Me:=by
 classical
 exact { M with
  F:=fun ad=>match M.F ad with
   | some u=>some u
   | none=>if (∃ s n,M.μ d s=some (ad.block,n))∨(d=0∧∃ k reg,M.τ k=some (some reg)∧reg.g=ad.block) then see? w ad else none
  μ:=fun d' s=>if d'=d then none else M.μ d' s }
theorem QwD {d:Nat} {ad:Addr} {u:Value} (h:(M.leave d w).F ad=some u):M.F ad=some u∨(M.F ad=none∧((∃ s n,M.μ d s=some (ad.block,n))∨(d=0∧∃ k reg,M.τ k=some (some reg)∧reg.g=ad.block))∧Sees w ad u):=by
 unfold Me.leave at h
 simp only at h
 split at h
 ·rename_i u' hu;cases h;exact .inl hu
 ·rename_i hu
  split at h
  ·rename_i hc;exact .inr ⟨hu,hc,see?_iff.1 h⟩
  ·cases h
theorem Qk3 {d:Nat} {ad:Addr} {u:Value} (h:(M.leave (d+1) w).F ad=some u):M.F ad=some u∨(M.F ad=none∧(∃ s n,M.μ (d+1) s=some (ad.block,n))∧Sees w ad u):=by
 rcases QwD h with h1 | ⟨h1,h3 | ⟨h3,_⟩,h4⟩
 ·exact .inl h1
 ·exact .inr ⟨h1,h3,h4⟩
 ·exact absurd h3 (by omega)
theorem UM (d:Nat):M.F.le (M.leave d w).F:=by
 intro ad u hu
 unfold Me.leave
 simp only
 rw [hu]
theorem Qzb {d s b n o:Nat} {u:Value} (hF:M.F ⟨b,o,none⟩=none) (hm:M.μ d s=some (b,n)) (hc:w.cell? ⟨b,o,none⟩=some u):(M.leave d w).F ⟨b,o,none⟩=some u:=by
 unfold Me.leave
 simp only
 rw [hF]
 simp only
 rw [if_pos (.inl ⟨s,n,hm⟩)]
 exact see?_iff.2 (.of rfl hc)
theorem QxJ {d s b n:Nat} {u:Value} (hF:M.F ⟨b,0,some 0⟩=none) (hm:M.μ d s=some (b,n)) (hc:Sees w ⟨b,0,some 0⟩ u):(M.leave d w).F ⟨b,0,some 0⟩=some u:=by
 unfold Me.leave
 simp only
 rw [hF]
 simp only
 rw [if_pos (.inl ⟨s,n,hm⟩)]
 exact see?_iff.2 hc
theorem QxK {k o:Nat} {reg:Reg} {u:Value} (hF:M.F ⟨reg.g,o,none⟩=none) (hm:M.τ k=some (some reg)) (hc:w.cell? ⟨reg.g,o,none⟩=some u):(M.leave 0 w).F ⟨reg.g,o,none⟩=some u:=by
 unfold Me.leave
 simp only
 rw [hF]
 simp only
 rw [if_pos (.inr ⟨rfl,k,reg,hm,rfl⟩)]
 exact see?_iff.2 (.of rfl hc)
theorem QsJ {d n:Nat} (hn:n<d):M.le n (M.leave d w) where
 F:=UM d
 μ:=by
  intro d' s b hd hm
  unfold Me.leave
  simp only
  rw [if_neg (by omega)]
  exact hm
 N:=Nat.le_refl _
 τ:=fun _ _ _ h=>h
 D:=.refl _
theorem Qzc (h:Rel P base w0 (dp+1) st θ M w):Rel P base w0 dp { st with tm:=Qr5 (dp+1) st.tm,bx:=Qr6 (dp+1) st.bx } θ (M.leave (dp+1) w) w where
 F:=by
  intro ad u hu
  rcases Qk3 hu with h1 | ⟨_,_,h3⟩
  ·exact h.F ad u h1
  ·exact h3
 tm:=by
  intro d t hd
  simp only
  rw [UL,if_neg (by omega)]
  exact (h.tm d t (by omega)).mono (QsJ (by omega:d<dp+1)) (h.le d t (by omega))
 le:=by
  intro d t hd
  simp only
  rw [UL,if_neg (by omega)]
  exact h.le d t (by omega)
 bx:=by
  intro d s hd
  simp only
  rw [Qk2,if_neg (by omega)]
  have hb:=h.bx d s (by omega)
  have hμ:(M.leave (dp+1) w).μ d s=M.μ d s:=by unfold Me.leave;simp only;rw [if_neg (by omega)]
  split at hb
  ·rw [hμ];exact hb
  ·obtain ⟨b,T,arr,h1,h2,h3,h4,h5⟩:=hb
   exact ⟨b,T,arr,by rw [hμ];exact h1,h2,h3,h4.mono (QsJ (by omega:d<dp+1)) h5,h5⟩
  ·obtain ⟨b,T,arr,h1,h2,h3,h4,h5,h6⟩:=hb
   exact ⟨b,T,arr,by rw [hμ];exact h1,h2,h3,h4,h5,fun i x hx=>(h6 i x hx).mono (UM _)⟩
  ·obtain ⟨b,ms,c,h1,h2,h3,h4⟩:=hb
   exact ⟨b,ms,c,by rw [hμ];exact h1,h2,h3,h4.mono (UM _)⟩
 deep:=by
  intro d s hd
  unfold Me.leave
  simp only
  split
  ·rfl
  ·exact h.deep d s (by omega)
 sep:=by
  intro d s d' s' b n n' h1 h2
  unfold Me.leave at h1 h2
  simp only at h1 h2
  split at h1
  ·cases h1
  ·split at h2
   ·cases h2
   ·exact h.sep d s d' s' b n n' h1 h2
 Fbox:=by
  intro d s b n ad hm hb
  unfold Me.leave at hm
  simp only at hm
  split at hm
  ·cases hm
  ·rename_i hne
   cases hu:(M.leave (dp+1) w).F ad with
   | none=>rfl
   | some u =>
    rcases Qk3 hu with h1 | ⟨_,⟨s',n',h2⟩,_⟩
    ·rw [h.Fbox d s b n ad hm hb] at h1;cases h1
    ·rw [hb] at h2
     have:=h.sep d s (dp+1) s' b n n' hm h2
     exact absurd this.1 hne
 tok:=by
  intro k o ho
  obtain ⟨h1,h2,h3⟩:=h.tok k o ho
  refine ⟨h1,h2,fun reg hr=>?_⟩
  obtain ⟨k1,k2,k3,cur,e,k4,k5,k6⟩:=h3 reg hr
  refine ⟨k1,k2,k3,cur,e,k4,k5,fun ad hb hoff=>?_⟩
  cases hu:(M.leave (dp+1) w).F ad with
  | none=>rfl
  | some u =>
   rcases Qk3 hu with h1 | ⟨_,⟨s',n',h2⟩,_⟩
   ·rw [k6 ad hb hoff] at h1;cases h1
   ·subst hr
    exact absurd hb.symm (h.tbox k reg (dp+1) s' _ n' ho h2)
 live:=h.live
 tsep:=h.tsep
 tbox:=by
  intro k reg d s b n hk hm
  unfold Me.leave at hm
  simp only at hm
  split at hm
  ·cases hm
  ·exact h.tbox k reg d s b n hk hm
 N:=h.N
 lv:=h.lv
 hb:=h.hb
 below:=h.below
 F0:=h.F0.trans (UM _)
 Fnew:=by
  intro ad u hu
  rcases Qk3 hu with h1 | ⟨_,⟨s',n',h2⟩,_⟩
  ·exact h.Fnew ad u h1
  ·have hb:=h.bx (dp+1) s' (Nat.le_refl _)
   split at hb
   ·rw [hb] at h2;cases h2
   ·obtain ⟨b,T,arr,k1,k2,_⟩:=hb
    rw [h2] at k1;cases k1;exact .inr k2
   ·obtain ⟨b,T,arr,k1,k2,_⟩:=hb
    rw [h2] at k1;cases k1;exact .inr k2
   ·obtain ⟨b,ms,c,k1,k2,_⟩:=hb
    rw [h2] at k1;cases k1;exact .inr k2
 gl:=h.gl
 rw:=by
  intro k b hk
  obtain ⟨h1,h2,h3⟩:=h.rw k b hk
  refine ⟨h1,h2,fun reg hr=>?_⟩
  have hr:M.τ k=some (some reg):=hr
  obtain ⟨k1,k2,k3,cur,e,k4,k5⟩:=h3 reg hr
  refine ⟨k1,k2,fun ad hb=>?_,cur,e,k4,fun i x hx=>(k5 i x hx).mono (UM _)⟩
  cases hu:(M.leave (dp+1) w).F ad with
  | none=>rfl
  | some u =>
   rcases Qk3 hu with q | ⟨_,⟨s',n',q⟩,_⟩
   ·rw [k3 ad hb] at q;cases q
   ·exact absurd hb.symm (h.tbox k reg (dp+1) s' _ n' hr q)
 dpi:=h.dpi.step (M':=M.leave (dp+1) w) rfl (Nat.le_refl _) (fun _ _=>rfl) (fun c ad hc hb hn=>by
  cases hu:(M.leave (dp+1) w).F ad with
  | none=>rfl
  | some u =>
   rcases Qk3 hu with q | ⟨_,⟨s',n',q⟩,_⟩
   ·rw [hn] at q;cases q
   ·exact absurd hb (h.dpi.box hc q)) (fun c d s n hc hm=>by
  unfold Me.leave at hm
  simp only at hm
  split at hm
  ·cases hm
  ·exact hm) (fun c k reg _ hr _=>⟨k,hr⟩)
def QbQ (tmps:Array Value):ResultVar→Sem Value
 | .tmp t=>pure (tmps.getD t undef)
 | .cell a t=>do loadVar t (← asAddr (tmps.getD a undef))
def QsK (M:Me) (dp:Nat) (w:World) (v:V) (u:Value):Prop:=RelV M v u∨∃ (ty:Ty) (xs:ty.den),v=.d ty xs∧RelD (M.leave dp w).F ty xs [u]
theorem QsL (h:RelA P base w0 dp nn st θ M a w) {v0 v:V} {u:Value} (hv:QAQ dp st v0=some v) (htm:RelV M v0 u):QsK M dp w v u:=by
 unfold QAQ at hv
 split at hv
 ·rename_i d s
  right
  obtain ⟨hd,hv2⟩:=Qn hv
  clear hv
  have hd:=Nat.eq_of_beq_eq_true hd
  subst hd
  split at hv2
  case h_2=>cases hv2
  rename_i ty xs hb
  simp only [Option.some.injEq] at hv2
  subst hv2
  refine ⟨.list ty,xs,rfl,?_⟩
  cases htm with
  | msl _ _ b n hm hn =>
   obtain ⟨b',T,arr,hm',_,hh,hsize,hmax,hrow⟩:=h.rel.rows (Nat.le_refl _) hb
   rw [hm] at hm'
   simp only [Option.some.injEq,Prod.mk.injEq] at hm'
   obtain ⟨rfl,rfl⟩:=hm'
   have hrows:RowsRel M.F ty xs arr.toList:=⟨by simpa using hsize,hrow⟩
   exact (hrows.mono (UM (w:=w) d)).slice (o:=0) (fun j u hu=>by
    rw [Nat.zero_add]
    exact Qzb (h.rel.Fbox d s b _ _ hm rfl) hm (by rw [V6 hh];simpa using hu)) (Nat.le_refl _) hmax
 ·rename_i d s
  right
  obtain ⟨hd,hv2⟩:=Qn hv
  clear hv
  have hd:=Nat.eq_of_beq_eq_true hd
  subst hd
  split at hv2
  case h_2=>cases hv2
  rename_i k v es hb
  simp only [Option.some.injEq] at hv2
  subst hv2
  refine ⟨.map k v,es,rfl,?_⟩
  obtain ⟨b,n,rfl,hm⟩:=htm.mp_inv
  obtain ⟨b',ms,c,hm',_,hh,hmr⟩:=h.rel.maps (Nat.le_refl _) hb
  rw [hm] at hm'
  simp only [Option.some.injEq,Prod.mk.injEq] at hm'
  obtain ⟨rfl,rfl⟩:=hm'
  exact Qwc (QxJ (h.rel.Fbox d s b _ _ hm rfl) hm (.inr ⟨rfl,ms,c,hh,rfl⟩)) (hmr.mono (UM (w:=w) d))
 ·rename_i k
  revert hv
  cases hd:Nat.beq dp 0 with
  | false =>
   intro hv
   simp only [cond_false,Option.some.injEq] at hv
   subst hv
   exact .inl htm
  | true =>
   intro hv
   simp only [cond_true] at hv
   have hd:=Nat.eq_of_beq_eq_true hd
   subst hd
   split at hv
   case h_2=>cases hv
   rename_i ty xs hb
   simp only [Option.some.injEq] at hv
   subst hv
   refine .inr ⟨.list ty,xs,rfl,?_⟩
   obtain ⟨h1,h2,h3⟩:=h.rel.rw k _ hb
   obtain ⟨o,ho⟩:=h.rel.live k h1
   have hv:=htm.raw_inv.2 o ho
   cases o with
   | none =>
    obtain rfl:=show u=_ from hv
    obtain rfl:=show xs=[] from h2 ho
    exact QcE _ _
   | some reg =>
    obtain ⟨k1,k2,k3,cur,e,k4,k5⟩:=h3 reg ho
    obtain ⟨_,_,q⟩:=h.rel.tok k _ ho
    obtain ⟨_,q2,q3,cur',e',q4,q5,_⟩:=q reg rfl
    rw [k4] at q4
    cases q4
    simp only at k1 k2 k5
    obtain rfl:=show u=_ from hv
    have hcl:cur.toList.length=cur.size:=Array.length_toList
    have hrows:=QrN (xs:=xs) (ty:=ty) k5 (by rw [hcl,q5,k2];exact Nat.mul_le_mul_right _ (by omega))
    rw [k1]
    exact (hrows.mono (UM (w:=w) 0)).slice (o:=0) (fun j u hu=>by
     rw [Nat.zero_add]
     refine QxK (k3 _ rfl) ho ?_
     rw [V6 k4]
     rw [List.getElem?_take] at hu
     split at hu
     ·simpa using hu
     ·cases hu) (by omega) q3
 ·simp only [Option.some.injEq] at hv
  subst hv
  exact .inl htm
theorem QvH (h:RelA P base w0 dp nn st θ M a w) {x:ResultVar} {v:V} (hv:Qxl P dp st x=some v) :
  ∃ u,(QbQ a.tmps x).run P w=.ok u w∧QsK M dp w v u:=by
 cases x with
 | tmp t =>
  have htm:=h.rel.tm dp t (Nat.le_refl _)
  simp only [thA,if_true] at htm
  exact ⟨_,rfl,QsL h hv htm⟩
 | cell p ty =>
  have htm:=h.rel.tm dp p (Nat.le_refl _)
  simp only [thA,if_true] at htm
  simp only [Qxl] at hv
  obtain ⟨v0,u,h1,h2,h3,_⟩:=QcF hv h.rel htm (h.rel.le dp p (Nat.le_refl _))
  have hp:∃ ad,a.tmps.getD p undef=.pointer (some ad):=Qpj hv h.rel htm
  obtain ⟨ad,hp⟩:=hp
  have h2:=h2 w (.refl _ _)
  rw [hp] at h2
  refine ⟨u,?_,QsL h h1 h3⟩
  simp only [QbQ,hp,asAddr,Sem.run_bind,Sem.run_pure,Result.andThen_ok]
  simpa only [Instr.loadAt,Instr.sureAddr,Sem.run_bind,Sem.run_pure,Result.andThen_ok] using h2
theorem QhQ (h:RelA P base w0 dp nn st θ M a w):∀ (l:List ResultVar) (vs:List V),Qr3 P dp st l=some vs→∃ us:List Value,(l.mapM (QbQ a.tmps)).run P w=.ok us w∧us.length=l.length∧vs.length=us.length ∧
  ∀ (i:Nat) v u,vs[i]? = some v→us[i]? = some u→QsK M dp w v u
 | [],vs,hv=>by
  simp only [Qr3,Option.some.injEq] at hv
  subst hv
  exact ⟨[],rfl,rfl,rfl,fun i v t h=>by simp at h⟩
 | x::l,vs,hv=>by
  simp only [Qr3] at hv
  split at hv
  case h_2=>cases hv
  rename_i v vs' h1 h2
  simp only [Option.some.injEq] at hv
  subst hv
  obtain ⟨u,hrun,hr⟩:=QvH h h1
  obtain ⟨us,hruns,hl0,hl,hrs⟩:=QhQ h l vs' h2
  refine ⟨u::us,?_,by simp [hl0],by simp [hl],fun i v' t' hv' ht'=>?_⟩
  ·rw [List.mapM_cons]
   simp only [Sem.run_bind,hrun,Result.andThen_ok,hruns,Sem.run_pure]
  cases i with
  | zero=>simp at hv' ht';subst hv';subst ht';exact hr
  | succ i=>simp at hv' ht';exact hrs i v' t' hv' ht'
theorem QcK {fn:Func} {us:List Value} {tmps:Array Value} (hts:(fn.results.toList.mapM (QbQ tmps)).run P w=.ok us w):(results fn tmps).run P w=.ok (if h:us.toArray.size=1 then us.toArray[0] else .tuple us.toArray) w:=by
 have gen:∀ (f:ResultVar→Sem Value),(∀ x,f x=QbQ tmps x)→(fn.results.toList.mapM f).run P w=.ok us w:=by
  intro f hf
  rw [show f=QbQ tmps from funext hf]
  exact hts
 unfold results
 rw [Array.mapM_eq_mapM_toList,Sem.run_bind,Sem.run_map,gen _ (fun x=>by cases x<;>rfl)]
 rfl
theorem QqG {M':Me}:∀ (tys:List Ty) (vs:List V) (x:Wf tys),Wj tys vs=some x→∀ us:List Value,vs.length=us.length→(∀ (i:Nat) v u,vs[i]? = some v→us[i]? = some u→∀ ty y,Y1 ty v=some y→RelV M' (JO ty y) u) →
  (ZR tys x).length=us.length∧∀ (i:Nat) c u,(ZR tys x)[i]? = some c→us[i]? = some u→RelV M' c u
 | [],[],x,_,us,hl,_=>by
  have:us=[]:=List.eq_nil_of_length_eq_zero hl.symm
  subst this
  exact ⟨rfl,fun i c u h=>by simp [ZR] at h⟩
 | [],_::_,x,h,_,_,_=>by simp [Wj] at h
 | [t],[],x,h,_,_,_=>by simp [Wj] at h
 | [t],[v],x,h,us,hl,hr=>by
  obtain ⟨u,rfl⟩:∃ u,us=[u]:=List.length_eq_one_iff.1 hl.symm
  refine ⟨rfl,fun i c u' hc hu=>?_⟩
  cases i with
  | zero =>
   simp only [ZR,List.getElem?_cons_zero,Option.some.injEq] at hc hu
   subst hc;subst hu
   exact hr 0 v u rfl rfl t x h
  | succ i=>simp [ZR] at hc
 | [t],_::_::_,x,h,_,_,_=>by simp [Wj] at h
 | t::t'::ts,[],x,h,_,_,_=>by simp [Wj] at h
 | t::t'::ts,v::vs,x,h,us,hl,hr=>by
  simp only [Wj] at h
  split at h
  case h_2=>cases h
  rename_i y z hy hz
  simp only [Option.some.injEq] at h
  subst h
  cases us with
  | nil=>simp at hl
  | cons u us =>
   obtain ⟨k1,k2⟩:=QqG (t'::ts) vs z hz us (by simpa using hl) (fun i v u hv hu=>hr (i+1) v u (by simpa using hv) (by simpa using hu))
   refine ⟨by simp [ZR,k1],fun i c u' hc hu=>?_⟩
   cases i with
   | zero =>
    simp only [ZR,List.getElem?_cons_zero,Option.some.injEq] at hc hu
    subst hc;subst hu
    exact hr 0 v u rfl rfl t y hy
   | succ i =>
    simp only [ZR,List.getElem?_cons_succ] at hc hu
    exact k2 i c u' hc hu
theorem QxL (h:RelA P base w0 dp nn st θ M a w) {fn:Func} {v:V} (hv:QAR P fn dp st=some v) :
  ∃ u,(results fn a.tmps).run P w=.ok u w ∧
   ((∀ n,n<dp→v.le n=true→RelV (M.leave dp w) v u)∧∀ tys x,tys.length=fn.results.size→Qjo tys v=some x→∀ M':Me,(M.leave dp w).F.le M'.F→RelV M' (EL tys x) u):=by
 have one:∀ (v0:V) (u:Value),QsK M dp w v0 u→∀ M':Me,(M.leave dp w).F.le M'.F→∀ (ty:Ty) (y:ty.den),Y1 ty v0=some y→RelV M' (JO ty y) u:=by
  intro v0 u hr M' hM' ty y hy
  have hu:RelU (M.leave dp w).F ty y u:=by
   rcases hr with hr | ⟨ty',xs,rfl,hr⟩
   ·exact (UJ hy hr).mono (UM dp)
   ·exact UJ (M:=M.leave dp w) hy (.d _ _ _ hr)
  exact Uh (hu.mono hM')
 have low:∀ (v0:V) (u:Value),QsK M dp w v0 u→∀ n,n<dp→v0.le n=true→RelV (M.leave dp w) v0 u:=by
  intro v0 u hr n hn hle
  rcases hr with hr | ⟨ty,xs,rfl,hr⟩
  ·exact hr.mono (QsJ hn) hle
  ·exact .d _ _ _ hr
 unfold QAR at hv
 split at hv
 ·rename_i v0 h0
  simp only [Option.some.injEq] at hv
  subst hv
  obtain ⟨us,hts,hl0,hl,hrs⟩:=QhQ h _ _ h0
  obtain ⟨u,rfl⟩:∃ u,us=[u]:=List.length_eq_one_iff.1 hl.symm
  have hr:=hrs 0 v0 u rfl rfl
  refine ⟨_,QcK hts,low v0 u hr,?_⟩
  intro tys x hlen hx M' hM'
  have h1:fn.results.size=1:=by rw [← Array.length_toList,← hl0];rfl
  rw [h1] at hlen
  obtain ⟨ty,rfl⟩:=List.length_eq_one_iff.1 hlen
  exact one v0 u hr M' hM' ty x hx
 ·rename_i vs hne h0
  simp only [Option.some.injEq] at hv
  subst hv
  obtain ⟨us,hts,hl0,hl,hrs⟩:=QhQ h _ _ h0
  have hts1:us.length≠1:=by
   intro e
   rw [e] at hl
   obtain ⟨v,rfl⟩:=List.length_eq_one_iff.1 hl
   exact hne v rfl
  have hrun:=QcK hts
  rw [dif_neg (by simpa using hts1)] at hrun
  have h1:fn.results.size=us.length:=by rw [← Array.length_toList,← hl0]
  refine ⟨_,hrun,?_,?_⟩
  ·intro n hn hle
   exact .tup _ _ (by simp [hl]) (fun i c u hc hu=>low c u (hrs i c u hc (by simpa using hu)) n hn (VT hle hc))
  ·intro tys x hlen hx M' hM'
   have hx':Wj tys vs=some x:=by
    cases tys with
    | nil=>exact hx
    | cons t1 tr =>
     cases tr with
     | nil=>exfalso;simp at hlen;omega
     | cons t2 tr=>exact hx
   obtain ⟨k1,k2⟩:=QqG (M':=M') tys vs x hx' us hl (fun i v u hv hu ty y hy=>one v u (hrs i v u hv hu) M' hM' ty y hy)
   have hun:EL tys x=.tup (ZR tys x):=by
    cases tys with
    | nil=>rfl
    | cons t1 tr =>
     cases tr with
     | nil=>exfalso;simp at hlen;omega
     | cons t2 tr=>rfl
   rw [hun]
   exact .tup _ _ (by simpa using k1) (fun i c u hc hu=>k2 i c u hc (by simpa using hu))
 ·cases hv
end
end
end Go.Ab
