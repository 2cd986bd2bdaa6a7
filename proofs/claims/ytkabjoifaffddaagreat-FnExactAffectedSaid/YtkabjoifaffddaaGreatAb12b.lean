import Derived.Test.YtkabjoifaffddaaGreatAb12n
namespace Go.Ab
def Qpw (bs:List Nat):List Value:=bs.map fun b=>.pointer (some ⟨b,0,none⟩)
def QtY (w:World) (bs:List Nat) (o:Option Reg):Base:=⟨w.heap.size,bs++match o with
 | some r=>[r.g]
 | none=>[]⟩
def QjB (M:Me) (o:Option Reg) (g:Nat) (bs:List Nat) (c:V) (arr:Array Value):Prop:=match c with
 | .d (.list t) xs=>∃ u,arr=#[u]∧RelD M.F (.list t) xs [u]∧Eg o u (List.length (α:=t.den) xs) t.cells
 | .nils=>arr=#[.slice none 0 0]∧o=none
 | .d .bool _=>arr=#[.func (.func g) #[] (Qpw bs).toArray]
 | .agg cs=>RelL M cs arr.toList
 | _=>False
def Qsw (F:Snap) (o:Option Reg) (g:Nat) (bs:List Nat) (c:V) (arr:Array Value):Prop:=match c with
 | .d (.list t) xs=>∃ u,arr=#[u]∧RelD F (.list t) xs [u]∧Eg o u (List.length (α:=t.den) xs) t.cells
 | .d .bool _=>arr=#[.func (.func g) #[] (Qpw bs).toArray]
 | .agg cs=>∃ (t:Ty) (x:t.den),cs=Qm t x∧RelD F t x arr.toList
 | _=>False
def QB4 (P:Program) (gl:Nat→Option (List V)) (g:Nat) (args:List V) (v:V):Prop:=∀ (ret:V) (outs:List V),v=.tup (ret::outs)→JG P g=true∧∀ (M:Me) (w:World) (vals:List Value) (bs:List Nat) (o:Option Reg),GlobOk gl M.F→(∀ a u,M.F a=some u→Sees w a u)→args.length=vals.length+bs.length→outs.length=bs.length→(∀ (j:Nat) c u,args[j]? = some c→vals[j]? = some u→RelV M c u)→bs.Nodup→(∀ (j:Nat) b c,bs[j]? = some b→args[vals.length+j]? = some c→∃ T arr,w.heap[b]? = some (.cells arr T (0,0))∧(∀ a,a.block=b→M.F a=none)∧QjB M o g bs c arr)→(∀ reg,o=some reg→reg.n≤reg.cap∧reg.cap≤maxLen∧reg.g∉bs∧∃ cur e,w.heap[reg.g]? = some (.cells cur e (0,0))∧cur.size=reg.cap*reg.sz∧∀ a,a.block=reg.g→reg.n*reg.sz≤a.off→M.F a=none)→Calls P g (vals++Qpw bs).toArray w fun e w'=>∃ u F' o',e=.returned u∧M.F.le F'∧(∀ a x,F' a=some x→Sees w' a x∧(M.F a=some x∨Own (QtY w bs o) a.block))∧BelowB (QtY w bs o) w w'∧(∀ M':Me,M'.F=F'→RelV M' ret u)∧(∀ (j:Nat) b c,bs[j]? = some b→outs[j]? = some c→∃ T arr,w'.heap[b]? = some (.cells arr T (0,0))∧(∀ a,a.block=b→F' a=none)∧Qsw F' o' g bs c arr)∧∀ reg,o'=some reg→Own (QtY w bs o) reg.g∧reg.n≤reg.cap∧reg.cap≤maxLen∧reg.g∉bs∧∃ cur e',w'.heap[reg.g]? = some (.cells cur e' (0,0))∧cur.size=reg.cap*reg.sz∧∀ ad,ad.block=reg.g→reg.n*reg.sz≤ad.off→F' ad=none
theorem Qpx:∀ {x y:List (Nat × Nat)},Qmm x y=true→x=y
 | [],[],_=>rfl
 | [],_::_,h=>by simp [Qmm] at h
 | _::_,[],h=>by simp [Qmm] at h
 | a::x,b::y,h=>by
  simp only [Qmm,Bool.and_eq_true] at h
  obtain ⟨⟨h1,h2⟩,h3⟩:=h
  rw [Qpx h3,Prod.ext (Nat.eq_of_beq_eq_true h1) (Nat.eq_of_beq_eq_true h2)]
theorem Qwx:∀ {p:Nat × Nat} {l:List (Nat × Nat)},p∈l→QAN p l=true
 | p,q::l,h=>by
  simp only [QAN,Bool.or_eq_true,Bool.and_eq_true]
  rcases List.mem_cons.1 h with rfl | h
  ·exact .inl ⟨Nat.beq_refl _,Nat.beq_refl _⟩
  ·exact .inr (Qwx h)
theorem QnO:∀ {l:List (Nat × Nat)},Qva l=true→l.Nodup
 | [],_=>List.nodup_nil
 | p::l,h=>by
  simp only [Qva,Bool.and_eq_true,Bool.not_eq_true'] at h
  refine List.nodup_cons.2 ⟨fun hm=>?_,QnO h.2⟩
  rw [Qwx hm] at h
  cases h.1
theorem Qsx {M:Me}:∀ {caps:List V} {ps:List (Nat × Nat)} {us:List Value},QbL caps=some ps→caps.length=us.length→(∀ (i:Nat) c u,caps[i]? = some c→us[i]? = some u→RelV M c u) →
  ∃ bs,us=Qpw bs∧bs.length=ps.length∧∀ (j:Nat) p b,ps[j]? = some p→bs[j]? = some b→∃ n,M.μ p.1 p.2=some (b,n)
 | [],ps,us,h,hl,_=>by
  cases h
  cases us with
  | nil=>exact ⟨[],rfl,rfl,fun j p b hp=>by simp at hp⟩
  | cons=>cases hl
 | c::caps,ps,[],h,hl,_=>by cases hl
 | c::caps,ps,u::us,h,hl,hr=>by
  have hc:=hr 0 c u rfl rfl
  cases c with
  | ptr d s off =>
   simp only [QbL] at h
   obtain ⟨h0,h⟩:=Qn h
   obtain ⟨ps',h1,rfl⟩:=Option.map_eq_some_iff.1 h
   obtain rfl:=Nat.eq_of_beq_eq_true h0
   obtain ⟨b,n,rfl,hm⟩:=hc.ptr_inv
   obtain ⟨bs,rfl,k2,k3⟩:=Qsx h1 (by simpa using hl) (fun i c u hc hu=>hr (i+1) c u hc hu)
   refine ⟨b::bs,rfl,by simp [k2],fun j p b' hp hb=>?_⟩
   cases j with
   | zero =>
    simp only [List.getElem?_cons_zero,Option.some.injEq] at hp hb
    subst hp;subst hb
    exact ⟨n,hm⟩
   | succ j=>exact k3 j p b' (by simpa using hp) (by simpa using hb)
  | _=>simp [QbL] at h
theorem Qyw {n:Nat}:∀ {caps:List V} {ps:List (Nat × Nat)},QbL caps=some ps→V.le.leL n caps=true→∀ p∈ps,p.1≤n
 | [],ps,h,_,p,hp=>by cases h;cases hp
 | c::caps,ps,h,hl,p,hp=>by
  simp only [V.le.leL,Bool.and_eq_true] at hl
  cases c with
  | ptr d s off =>
   simp only [QbL] at h
   obtain ⟨h0,h⟩:=Qn h
   obtain ⟨ps',h1,rfl⟩:=Option.map_eq_some_iff.1 h
   rcases List.mem_cons.1 hp with rfl | hp
   ·exact Nat.le_of_ble_eq_true hl.1
   ·exact Qyw h1 hl.2 p hp
  | _=>simp [QbL] at h
theorem QqE {nt:Nat} {bx:Nat→Nat→Box} {d s:Nat}:∀ {ps:List (Nat × Nat)} {vs:List V},(d,s)∉ps→QnA nt ps vs bx d s=bx d s
 | [],_,_=>rfl
 | _::_,[],_=>rfl
 | p::ps,v::vs,h=>by
  simp only [List.mem_cons,not_or] at h
  simp only [QnA,QrW]
  have:(Nat.beq s p.2&&Nat.beq d p.1)=false:=by
   cases h1:Nat.beq s p.2 with
   | false=>rfl
   | true =>
    cases h2:Nat.beq d p.1 with
    | false=>rfl
    | true=>exact absurd (Prod.ext (Nat.eq_of_beq_eq_true h2) (Nat.eq_of_beq_eq_true h1)) h.1
  rw [this]
  exact QqE h.2
theorem Qwy {nt:Nat} {bx:Nat→Nat→Box}:∀ {ps:List (Nat × Nat)} {vs:List V} {j:Nat} {p:Nat × Nat} {v:V},ps.Nodup→ps[j]? = some p→vs[j]? = some v→QnA nt ps vs bx p.1 p.2=QAO nt v (bx p.1 p.2)
 | [],_,_,_,_,_,h,_=>by simp at h
 | _::_,[],_,_,_,_,_,h=>by simp at h
 | p::ps,v::vs,0,p',v',_,h1,h2=>by
  simp only [List.getElem?_cons_zero,Option.some.injEq] at h1 h2
  subst h1;subst h2
  simp only [QnA,QrW,Nat.beq_refl,Bool.and_true,cond_true]
 | p::ps,v::vs,j+1,p',v',hn,h1,h2=>by
  simp only [List.getElem?_cons_succ] at h1 h2
  obtain ⟨hn1,hn2⟩:=List.nodup_cons.1 hn
  have hne:p'≠p:=fun e=>hn1 (e ▸ List.mem_of_getElem? h1)
  simp only [QnA,QrW]
  have:(Nat.beq p'.2 p.2&&Nat.beq p'.1 p.1)=false:=by
   cases h3:Nat.beq p'.2 p.2 with
   | false=>rfl
   | true =>
    cases h4:Nat.beq p'.1 p.1 with
    | false=>rfl
    | true=>exact absurd (Prod.ext (Nat.eq_of_beq_eq_true h4) (Nat.eq_of_beq_eq_true h3)) hne
  rw [this]
  exact Qwy hn2 h1 h2
theorem QnP {st:St} {g:Nat} {ps0:List (Nat × Nat)}:∀ {ps:List (Nat × Nat)} {cs:List V},Qv9 st g ps0 ps=some cs→cs.length=ps.length∧∀ (j:Nat) p c,ps[j]? = some p→cs[j]? = some c→Qv8 st g ps0 p=some c
 | [],cs,h=>by cases h;exact ⟨rfl,fun j p c hp=>by simp at hp⟩
 | p::ps,cs,h=>by
  simp only [Qv9] at h
  split at h
  case h_2=>cases h
  rename_i v vs h1 h2
  cases h
  obtain ⟨k1,k2⟩:=QnP h2
  refine ⟨by simp [k1],fun j p' c hp hc=>?_⟩
  cases j with
  | zero =>
   simp only [List.getElem?_cons_zero,Option.some.injEq] at hp hc
   subst hp;subst hc
   exact h1
  | succ j=>exact k2 j p' c (by simpa using hp) (by simpa using hc)
theorem Quu {st:St} {tok:Nat} {t:Ty} {xs:List t.den}:∀ {ps:List (Nat × Nat)} {p:Nat × Nat},p∈ps→st.bx p.1 p.2=.cells [.own tok t xs]→some tok∈Qdy st ps
 | q::ps,p,hp,h=>by
  rcases List.mem_cons.1 hp with rfl | hp
  ·simp only [Qdy,h];exact List.mem_cons_self
  ·have:=Quu hp h
   simp only [Qdy]
   split
   ·exact List.mem_cons_of_mem _ this
   ·exact List.mem_cons_of_mem _ this
   ·exact this
theorem Quv {st:St}:∀ {ps:List (Nat × Nat)} {p:Nat × Nat},p∈ps→st.bx p.1 p.2=.cells [.nils]→none∈Qdy st ps
 | q::ps,p,hp,h=>by
  rcases List.mem_cons.1 hp with rfl | hp
  ·simp only [Qdy,h];exact List.mem_cons_self
  ·have:=Quv hp h
   simp only [Qdy]
   split
   ·exact List.mem_cons_of_mem _ this
   ·exact List.mem_cons_of_mem _ this
   ·exact this
theorem Qen {st:St}:∀ {ps:List (Nat × Nat)} {k:Nat},some k∈Qdy st ps→∃ p∈ps,∃ (t:Ty) (xs:List t.den),st.bx p.1 p.2=.cells [.own k t xs]
 | [],k,h=>by cases h
 | q::ps,k,h=>by
  simp only [Qdy] at h
  split at h
  ·rename_i tok t xs hb
   rcases List.mem_cons.1 h with h | h
   ·cases h;exact ⟨q,List.mem_cons_self,_,_,hb⟩
   ·obtain ⟨p,h1,h2⟩:=Qen h;exact ⟨p,List.mem_cons_of_mem _ h1,h2⟩
  ·rcases List.mem_cons.1 h with h | h
   ·cases h
   ·obtain ⟨p,h1,h2⟩:=Qen h;exact ⟨p,List.mem_cons_of_mem _ h1,h2⟩
  ·obtain ⟨p,h1,h2⟩:=Qen h;exact ⟨p,List.mem_cons_of_mem _ h1,h2⟩
theorem Qsy:∀ {cs vs:List V},QrI cs vs=true→∀ (j:Nat) {c v:V},cs[j]? = some c→vs[j]? = some v→c.self? = v.self?
 | [],[],_,j,c,v,hc,_=>by simp at hc
 | [],_::_,h,_,_,_,_,_=>by cases h
 | _::_,[],h,_,_,_,_,_=>by cases h
 | a::cs,b::vs,h,j,c,v,hc,hv=>by
  simp only [QrI,Bool.and_eq_true,beq_iff_eq] at h
  cases j with
  | zero =>
   simp only [List.getElem?_cons_zero,Option.some.injEq] at hc hv
   rw [← hc,← hv];exact h.1
  | succ j=>exact Qsy h.2 j (by simpa using hc) (by simpa using hv)
section
variable {P:Program} {base:Base} {w0:Orig} {dp:Nat} {st:St} {θ:Nat→Nat→Value} {M:Me} {w:World}
theorem QqF (h:Rel P base w0 dp st θ M w):∀ {ps:List (Nat × Nat)} {bs:List Nat},ps.Nodup→bs.length=ps.length→(∀ (j:Nat) p b,ps[j]? = some p→bs[j]? = some b→∃ n,M.μ p.1 p.2=some (b,n))→bs.Nodup
 | [],[],_,_,_=>List.nodup_nil
 | [],_::_,_,hl,_=>by cases hl
 | _::_,[],_,_,_=>List.nodup_nil
 | p::ps,b::bs,hn,hl,hm=>by
  obtain ⟨hn1,hn2⟩:=List.nodup_cons.1 hn
  refine List.nodup_cons.2 ⟨fun hb=>?_,QqF h hn2 (by simpa using hl) (fun j p b hp hb=>hm (j+1) p b hp hb)⟩
  obtain ⟨j,hj⟩:=List.getElem?_of_mem hb
  have hlt:j<ps.length:=by have:=(List.getElem?_eq_some_iff.1 hj).1;simp at hl;omega
  obtain ⟨n,h1⟩:=hm 0 p b rfl rfl
  obtain ⟨n',h2⟩:=hm (j+1) ps[j] b (by simp) (by simpa using hj)
  obtain ⟨e1,e2⟩:=h.sep _ _ _ _ _ _ _ h1 h2
  exact hn1 (by rw [show p=ps[j] from Prod.ext e1 e2];exact List.getElem_mem hlt)
theorem QvE (h:Rel P base w0 dp st θ M w) {g:Nat} {ps:List (Nat × Nat)} {bs:List Nat} {x:Option Nat} {o:Option Reg} (hlen:bs.length=ps.length) (hm:∀ (j:Nat) p b,ps[j]? = some p→bs[j]? = some b→∃ n,M.μ p.1 p.2=some (b,n))
  (htk:Qdy st ps=[x]) (hsp:∀ k,x=some k→M.τ k=some o) (hsn:x=none→o=none) (hle:∀ p∈ps,p.1≤dp) {j:Nat} {p:Nat × Nat} {b:Nat} {c:V} (hp:ps[j]? = some p) (hb:bs[j]? = some b) (hv:Qv8 st g ps p=some c) :
  ∃ T arr,w.heap[b]? = some (.cells arr T (0,0))∧QjB M o g bs c arr:=by
 obtain ⟨n,hmp⟩:=hm j p b hp hb
 have hpm:p∈ps:=List.mem_of_getElem? hp
 have hd:=hle p hpm
 have key:∀ cs,st.bx p.1 p.2=.cells cs→∃ T arr,w.heap[b]? = some (.cells arr T (0,0))∧RelL M cs arr.toList:=by
  intro cs hcs
  obtain ⟨b',T,arr,k1,_,k3,k4,_⟩:=h.cells hd hcs
  rw [hmp] at k1
  cases k1
  exact ⟨T,arr,k3,k4⟩
 have single:∀ {c:V} {arr:Array Value},RelL M [c] arr.toList→∃ u,arr=#[u]∧RelV M c u:=by
  intro c arr hl
  have hl1:=hl.len
  obtain ⟨l⟩:=arr
  match l,hl1 with
  | [u],_=>exact ⟨u,rfl,hl.at_ 0 c u rfl rfl⟩
 unfold Qv8 at hv
 split at hv
 ·rename_i tok t xs hbx
  obtain ⟨hlv,hv⟩:=Qn hv
  cases hv
  obtain ⟨T,arr,k1,k2⟩:=key _ hbx
  obtain ⟨u,rfl,hu⟩:=single k2
  have:some tok∈Qdy st ps:=Quu hpm hbx
  rw [htk,List.mem_singleton] at this
  have hτ:=hsp tok this.symm
  cases hu with
  | own _ _ _ _ hdd hN hgr=>exact ⟨T,_,k1,u,rfl,hdd,hgr o hτ⟩
 ·rename_i hbx
  cases hv
  obtain ⟨T,arr,k1,k2⟩:=key _ hbx
  obtain ⟨u,rfl,hu⟩:=single k2
  have:none∈Qdy st ps:=Quv hpm hbx
  rw [htk,List.mem_singleton] at this
  have:=hu.nils_inv
  subst this
  exact ⟨T,_,k1,rfl,hsn (by assumption:none=x).symm⟩
 ·rename_i g' caps hbx
  split at hv
  case h_2=>cases hv
  rename_i ps' hps
  obtain ⟨h0,hv⟩:=Qn hv
  cases hv
  simp only [Bool.and_eq_true] at h0
  obtain rfl:=Nat.eq_of_beq_eq_true h0.1
  obtain rfl:=Qpx h0.2
  obtain ⟨T,arr,k1,k2⟩:=key _ hbx
  obtain ⟨u,rfl,hu⟩:=single k2
  refine ⟨T,_,k1,?_⟩
  cases hu with
  | fn f cs arr2 hl ha =>
   obtain ⟨bs',e1,e2,e3⟩:=Qsx hps (us:=arr2.toList) (by simpa using hl) (fun i c u hc hu=>ha i c u hc (by simpa using hu))
   have:bs'=bs:=by
    refine List.ext_getElem (by omega) fun i h1 h2=>?_
    have hi:i<ps'.length:=by omega
    obtain ⟨n1,m1⟩:=e3 i ps'[i] bs'[i] (List.getElem?_eq_getElem hi) (List.getElem?_eq_getElem h1)
    obtain ⟨n2,m2⟩:=hm i ps'[i] bs[i] (List.getElem?_eq_getElem hi) (List.getElem?_eq_getElem h2)
    rw [m1] at m2
    exact (Prod.mk.inj (Option.some.inj m2)).1
   subst this
   show #[_]=#[_]
   rw [← e1,Array.toArray_toList]
 ·rename_i cs _ _ _ hbx
  cases hv
  obtain ⟨T,arr,k1,k2⟩:=key _ hbx
  exact ⟨T,arr,k1,k2⟩
 ·cases hv
end
end Go.Ab
