import Derived.Test.YtkabjoifaffddaaGreatAb12b
namespace Go.Ab
variable {R:Type}
theorem QdU {P:Program} {g:Nat} {args:Array Value} {w:World} (h:JG P g=true):(callFunc g args).run P w=.ok (.enter g args) w:=by
 unfold JG at h
 split at h
 ·rename_i fn hf
  simp only [Bool.and_eq_true,Bool.not_eq_true'] at h
  have hn : fn.name ≠ "runtime.NumGoroutine" := by simpa using h.2
  have hb:fn.body≠none:=by
   intro e;rw [e] at h;simp at h
  simp [callFunc,hf,hn,hb]
 ·cases h
def AOK (P:Program) (gl:Nat→Option (List V)) (g:Nat) (args:List V) (v:V):Prop:=JG P g=true∧(∀ n,v.le n=true)∧∀ (M:Me) (w:World) (vals:List Value),GlobOk gl M.F→(∀ a u,M.F a=some u→Sees w a u)→args.length=vals.length→(∀ (i:Nat) c u,args[i]? = some c→vals[i]? = some u→RelV M c u)→Calls P g vals.toArray w fun e w'=>∃ u F',e=.returned u∧M.F.le F'∧(∀ a u,F' a=some u→M.F a=some u∨(Sees w' a u∧w.heap.size≤a.block))∧BelowN w.heap.size w w'∧RelV ⟨F',M.μ,M.τ,M.N,M.D⟩ v u
def QB5 (P:Program) (gl:Nat→Option (List V)) (g:Nat) (args:List V) (t:Ty) (xs:List t.den):Prop:=JG P g=true∧∀ (M:Me) (w:World) (vals:List Value),GlobOk gl M.F→(∀ a u,M.F a=some u→Sees w a u)→args.length=vals.length→(∀ (i:Nat) c u,args[i]? = some c→vals[i]? = some u→RelV M c u)→Calls P g vals.toArray w fun e w'=>∃ u F' o,e=.returned u∧M.F.le F'∧(∀ a u,F' a=some u→M.F a=some u∨(Sees w' a u∧w.heap.size≤a.block))∧BelowN w.heap.size w w'∧RelD F' (.list t) xs [u]∧Eg o u xs.length t.cells∧∀ reg,o=some reg→w.heap.size≤reg.g∧reg.n≤reg.cap∧reg.cap≤maxLen∧∃ cur e',w'.heap[reg.g]? = some (.cells cur e' (0,0))∧cur.size=reg.cap*reg.sz∧∀ ad,ad.block=reg.g→reg.n*reg.sz≤ad.off→F' ad=none
def QB6 (P:Program) (gl:Nat→Option (List V)) (g:Nat) (args:List V) (v:V):Prop:=JG P g=true∧∀ (M:Me) (w:World) (vals:List Value),GlobOk gl M.F→(∀ a u,M.F a=some u→Sees w a u)→args.length=vals.length→(∀ (i:Nat) c u,args[i]? = some c→vals[i]? = some u→RelV M c u)→Calls P g vals.toArray w fun e w'=>∃ u bs,e=.returned u∧BelowN w.heap.size w w'∧Z1 w' v u bs∧bs.Nodup∧∀ c∈bs,w.heap.size≤c
def QBN (P:Program) (g:Nat) (args:List V) (v:V):Prop:=∀ (x:V) (k k':Int) (b:V),args=[x,.d (.int .i64) k]→v=.tup [.d (.int .i64) k',b]→JG P g=true∧∀ (w:World) (u:Value) (bs:List Nat),x.dokV=true→Z1 w x u bs→bs.Nodup→inK .i64 k=true→Calls P g #[u,.int .i64 k] w fun e w'=>e=.returned (.int .i64 k')∧inK .i64 k'=true∧Z1 w' b u bs∧BelowX bs w w'
def QiW (w:World) (o:Option Reg):Base:=⟨w.heap.size,match o with
 | some r=>[r.g]
 | none=>[]⟩
def QBu (P:Program) (gl:Nat→Option (List V)) (g i:Nat) (args:List V) (v:V):Prop:=∀ (t:Ty) (ys:List t.den),v=.d (.list t) ys→JG P g=true∧∀ (M:Me) (w:World) (vals:List Value) (u:Value) (n:Nat) (o:Option Reg),GlobOk gl M.F→(∀ a u,M.F a=some u→Sees w a u)→args.length=vals.length→(∀ (j:Nat) c u,args[j]? = some c→vals[j]? = some u→RelV M c u)→vals[i]? = some u→Eg o u n t.cells→(∀ reg,o=some reg→reg.n≤reg.cap∧reg.cap≤maxLen∧∃ cur e,w.heap[reg.g]? = some (.cells cur e (0,0))∧cur.size=reg.cap*reg.sz∧∀ a,a.block=reg.g→reg.n*reg.sz≤a.off→M.F a=none)→Calls P g vals.toArray w fun e w'=>∃ u' F' o',e=.returned u'∧M.F.le F'∧(∀ a v,F' a=some v→Sees w' a v∧(M.F a=some v∨Own (QiW w o) a.block))∧BelowB (QiW w o) w w'∧RelD F' (.list t) ys [u']∧Eg o' u' ys.length t.cells∧∀ reg,o'=some reg→Own (QiW w o) reg.g∧reg.n≤reg.cap∧reg.cap≤maxLen∧∃ cur e',w'.heap[reg.g]? = some (.cells cur e' (0,0))∧cur.size=reg.cap*reg.sz∧∀ ad,ad.block=reg.g→reg.n*reg.sz≤ad.off→F' ad=none
def Qz8 (F:Snap) (t:Ty) (xs:List t.den) (o:Option Reg) (w:World):Prop:=(o=none→xs=[])∧∀ reg,o=some reg→reg.n=xs.length∧reg.sz=t.cells∧reg.n≤reg.cap∧reg.cap≤maxLen∧(∀ a,a.block=reg.g→F a=none)∧∃ cur e,w.heap[reg.g]? = some (.cells cur e (0,0))∧cur.size=reg.cap*reg.sz∧∀ (i:Nat) x,xs[i]? = some x→RelD F t x ((cur.toList.drop (i*t.cells)).take t.cells)
def QBO (P:Program) (gl:Nat→Option (List V)) (g:Nat) (args:List V) (v:V):Prop:=∀ (t:Ty) (xs ys:List t.den) (rest:List V),args=.d (.list t) xs::rest→v=.d (.list t) ys→JG P g=true∧∀ (M:Me) (w:World) (u:Value) (vals:List Value) (o:Option Reg),GlobOk gl M.F→(∀ a u,M.F a=some u→Sees w a u)→rest.length=vals.length→(∀ (i:Nat) c u,rest[i]? = some c→vals[i]? = some u→RelV M c u)→Qr7 o u→Qz8 M.F t xs o w→Calls P g (u::vals).toArray w fun e w'=>∃ u' o',e=.returned u'∧BelowB (QiW w o) w w'∧Qr7 o' u'∧(∀ reg',o'=some reg'→∃ reg,o=some reg∧reg'.g=reg.g)∧Qz8 M.F t ys o' w'
def QBv (P:Program) (gl:Nat→Option (List V)) (g:Nat) (args:List V) (v:V):Prop:=(g<Q2→AOK P gl g args v)∧(Q2≤g→g<ZH→∀ (t:Ty) (xs:List t.den),v=.d (.list t) xs→QB5 P gl (g - Q2) args t xs)∧(ZH≤g→g<VY→QB6 P gl (g - ZH) args v)∧(VY≤g→g<Q1→QBN P (g - VY) args v)∧(Q1≤g→g<Yc→QBu P gl ((g - Q1) / 64) ((g - Q1) % 64) args v)∧(Yc≤g→g<Vg→QB4 P gl (g - Yc) args v)∧(Vg≤g→QBO P gl (g - Vg) args v)
def QlR (P:Program) (gl:Nat→Option (List V)) (con:Nat→List V→(V→Option R)→Option R):Prop:=∀ g args K r,con g args K=some r→∃ v,K v=some r∧QBv P gl g args v
section
variable {P:Program} {base:Base} {w0:Orig} {θ:Nat→Nat→Value} {CF:Nat→Ctx R} {root:Nat→QbK R}
structure CtxOk (P:Program) (gl:Nat→Option (List V)) (CF:Nat→Ctx R) (root:Nat→QbK R):Prop where
 P_eq:∀ m,(CF m).P=P
 A_eq:∀ m m',(CF m).A=(CF m').A
 I_eq:∀ m m',(CF m).I=(CF m').I
 con:∀ m,QlR P gl (CF m).con
 L:∀ m q vs r,(CF m).L q vs=some r→∃ m' f an,m=m'+1∧QgB (root m') q=some f∧Vq (CF m).A q=some an∧f { QZ an vs with gl:=gl }=some r
def Quw (P:Program) (base:Base) (w0:Orig) (CF:Nat→Ctx R) (root:Nat→QbK R):Prop:=∀ (d:Nat) (path:List Nat) (g:Nat) (KV:Nat→V→Z9 R),(∀ m x,x∈(CF m).lab d path g (KV m)→x∈root m)→∀ (m:Nat) (args:List V) (st:St) (r:R) (M:Me) (θ:Nat→Nat→Value) (w:World) (vals:List Value),(CF m).inl d path g args (KV m) st=some r→Rel P base w0 d st θ M w→args.length=vals.length→(∀ (i:Nat) c u,args[i]? = some c→vals[i]? = some u→RelV M c u)→V.le.leL d args=true→JG P g=true∧Calls P g vals.toArray w fun e w'=>∃ u v m' st' M',m'≤m∧e=.returned u∧KV m' v st'=some r∧Rel P base w0 d st' θ M' w'∧RelV M' v u∧v.le d=true
def Fam (P:Program) (base:Base) (w0:Orig) (dp nn:Nat) (θ:Nat→Nat→Value) (N:Nat) (K:Nat→Z9 R) (r:R) (a:Act) (w:World):Prop:=∃ m,m≤N∧Qy0 P base w0 dp nn θ (K m) r a w
theorem Qsz {dp nn:Nat} {st:St} {M:Me} {a:Act} {w:World} (h:RelA P base w0 dp nn st θ M a w) (xs:Array Operand):(xs.toList.map (st.ev dp)).length=(xs.map a.eval).toList.length ∧
  (∀ (i:Nat) c u,(xs.toList.map (st.ev dp))[i]? = some c→(xs.map a.eval).toList[i]? = some u→RelV M c u)∧V.le.leL dp (xs.toList.map (st.ev dp))=true:=by
 refine ⟨by simp,?_,?_⟩
 ·intro i c u hc hu
  rw [List.getElem?_map] at hc
  rw [Array.toList_map,List.getElem?_map] at hu
  cases hx:xs.toList[i]? with
  | none=>rw [hx] at hc;cases hc
  | some x =>
   rw [hx] at hc hu
   simp only [Option.map_some,Option.some.injEq] at hc hu
   subst hc;subst hu
   exact (h.ev x).1
 ·refine Ug fun c hc=>?_
  obtain ⟨x,_,rfl⟩:=List.mem_map.1 hc
  exact (h.ev x).2
theorem QmG {n:Nat} {cs ds:List V} (h:V.le.leL n cs=true) (h':V.le.leL n ds=true):V.le.leL n (cs++ds)=true:=by
 refine Ug fun c hc=>?_
 rcases List.mem_append.1 hc with hc | hc
 ·obtain ⟨j,hj⟩:=List.getElem?_of_mem hc;exact VT h hj
 ·obtain ⟨j,hj⟩:=List.getElem?_of_mem hc;exact VT h' hj
theorem US {a b:Nat} (h:Nat.blt a b=true):a<b:=Nat.le_of_ble_eq_true h
theorem QgG {g:Nat} (h:g<Q2):g+Q2<ZH∧g+ZH<VY:=by
 unfold Q2 ZH VY at *
 omega
theorem Qk0 {g:Nat} (h:g<Q2):g+VY<Q1:=by
 unfold Q2 VY Q1 at *
 omega
def Qz9 (P:Program) (gl:Nat→Option (List V)) (dr:Nat→Option RBox) (g:Nat) (args:List V) (v:V):Prop:=JG P g=true∧(∀ n,v.le n=true)∧∀ (base:Base) (nd dp:Nat) (M:Me) (w:World) (vals:List Value),GlobOk gl M.F→(∀ a u,M.F a=some u→Sees w a u)→DpInv base dr nd M w→args.length=vals.length→(∀ (i:Nat) c u,args[i]? = some c→vals[i]? = some u→RelV M c u)→V.le.leL dp args=true→Calls P g vals.toArray w fun e w'=>∃ u F',e=.returned u∧M.F.le F'∧(∀ a u,F' a=some u→M.F a=some u∨(Sees w' a u∧w.heap.size≤a.block))∧BelowN w.heap.size w w'∧RelV ⟨F',M.μ,M.τ,M.N,M.D⟩ v u
theorem Qwz {gl:Nat→Option (List V)} {con:Nat→List V→(V→Option R)→Option R} (hcon:QlR P gl con) {st:St} {g:Nat} {args:List V} {K:V→Option R} {r:R} (hs:QzF con st g args K=some r) (hg:g<Q2):∃ v,K v=some r∧Qz9 P gl st.dr g args v:=by
 unfold QzF at hs
 split at hs
 ·obtain ⟨v,k1,hA⟩:=hcon g _ _ r hs
  obtain ⟨hb,hvl,hall⟩:=hA.1 hg
  exact ⟨v,k1,hb,hvl,fun _ _ _ M w vals h1 h2 _ h3 h4 _=>hall M w vals h1 h2 h3 h4⟩
 ·obtain ⟨v,k1,hA⟩:=hcon g _ _ r hs
  obtain ⟨hsc,k1⟩:=Qn k1
  obtain ⟨hb,hvl,hall⟩:=hA.1 hg
  refine ⟨v,k1,hb,hvl,fun _ _ dp M w vals h1 h2 hd h3 h4 h5=>?_⟩
  obtain ⟨l1,l2⟩:=QnJ (st:=st) hd rfl dp args vals h3 h4 h5
  refine (hall { M with F:=M.lend w } w vals (h1.mono QrQ) (Qpt h2) l1 l2).mono fun e w'=>?_
  rintro ⟨u,F',he,_,_,q3,q4⟩
  exact ⟨u,M.F,he,.refl _,fun _ _ h=>.inl h,q3,QAV hsc q4⟩
theorem Qy6 (H:CtxOk P w0.gl CF root) {dp nn:Nat} {o:Oper} {K:Nat→Z9 R} {m:Nat} {st:St} {M:Me} {a:Act} {w:World} {r:R} (h:RelA P base w0 dp nn st θ M a w) (hd:QfD nn o=true) {g g':Nat} {args:List V} {vals:List Value} {arr:Array Value}
  (hlen:args.length=vals.length) (hrel:∀ (i:Nat) c u,args[i]? = some c→vals[i]? = some u→RelV M c u) (hvals:vals.toArray=arr) (hexec:JG P g=true→(execOp a.eval o).run P w=.ok (.enter g arr) w) (h1:Q1≤g') (h1b:g'<Yc) (h2:(g' - Q1) / 64=g)
  (hs:QzD (CF m).con st g' ((g' - Q1) % 64) args dp o.dst (K m)=some r) (Q:Exit→Act→World→Prop):o.wp P a w (Fam P base w0 dp nn θ m K r) Q:=by
 have main:∀ (args':List V) (t:Ty) (ys:List t.den) (spent:Option Nat) (oo:Option Reg) (u:Value) (n:Nat),QBu P w0.gl g ((g' - Q1) % 64) args' (.d (.list t) ys)→args'.length=vals.length→(∀ (i:Nat) c u,args'[i]? = some c→vals[i]? = some u→RelV M c u)→vals[(g' - Q1) % 64]? = some u→Eg oo u n t.cells →
   (∀ k,spent=some k→st.lv k=true∧M.τ k=some oo)→(spent=none→oo=none)→K m ((st.minted spent).put dp o.dst (.own st.nt t ys))=some r→o.wp P a w (Fam P base w0 dp nn θ m K r) Q:=by
  intro args' t ys spent oo u n hA hl hr hu hg hsp hsn hk
  obtain ⟨hb,hall⟩:=hA t ys rfl
  have hreg0:∀ reg,oo=some reg→∃ k,spent=some k∧M.τ k=some (some reg):=by
   intro reg hreg
   cases spent with
   | none=>rw [hsn rfl] at hreg;cases hreg
   | some k=>exact ⟨k,rfl,by rw [(hsp k rfl).2,hreg]⟩
  have hcalls:=hall M w vals u n oo (w0.ok.mono h.rel.F0) h.rel.F hl hr hu hg (fun reg hreg=>by
   obtain ⟨k,_,hk⟩:=hreg0 reg hreg
   obtain ⟨_,_,q⟩:=h.rel.tok k _ hk
   exact (q reg rfl).2)
  rw [hvals] at hcalls
  unfold Oper.wp
  rw [hexec hb,Oper.upon_enter]
  refine hcalls.mono fun e w'=>?_
  rintro ⟨u',F',og,rfl,q1,q2,q3,q4,q5,q6⟩
  have hown:∀ c,Own (QiW w oo) c→w.heap.size≤c∨∃ reg,oo=some reg∧c=reg.g:=by
   intro c hc
   rcases hc with hc | hc
   ·exact .inl hc
   ·unfold QiW at hc
    split at hc
    ·rename_i reg;exact .inr ⟨reg,rfl,by simpa using hc⟩
    ·cases hc
  have hnot:∀ c,c<w.heap.size→(∀ reg,oo=some reg→c≠reg.g)→w'.heap[c]? = w.heap[c]?:=by
   intro c hc hne
   refine q3.block c fun ho=>?_
   rcases hown c ho with h1 | ⟨reg,h1,h2⟩
   ·omega
   ·exact hne reg h1 h2
  have hregb:∀ reg,oo=some reg→Own base reg.g∧reg.g<w.heap.size:=by
   intro reg hreg
   obtain ⟨k,_,hk⟩:=hreg0 reg hreg
   obtain ⟨_,_,q⟩:=h.rel.tok k _ hk
   obtain ⟨p1,_,_,cur,e',hh,_⟩:=q reg rfl
   exact ⟨p1,(Array.getElem?_eq_some_iff.1 hh).1⟩
  have hbase:∀ c,Own (QiW w oo) c→Own base c:=by
   intro c hc
   rcases hown c hc with h1 | ⟨reg,h1,h2⟩
   ·exact .inl (Nat.le_trans h.rel.hb h1)
   ·rw [h2];exact (hregb reg h1).1
  have hbelow:BelowB base w0.w w':=h.rel.below.trans ⟨q3.os,q3.tape,q3.output,q3.size,fun c hc=>q3.block c fun ho=>hc (hbase c ho),q3.drawn⟩
  have hmint:=h.rel.mint q1 spent og (fun k hk=>(hsp k hk).1) (fun a v hv=>(q2 a v hv).1) ?_ ?_ ?_ ?_ q3.size hbelow ?_ ?_ ?_
  ·refine ⟨m,Nat.le_refl _,_,_,(RelA.mk hmint h.size h.defers).put (v:=.own st.nt t ys) (YQ hd) ?_ rfl,hk⟩
   refine .own _ _ _ _ q4 ?_ ?_
   ·show st.nt<M.N+1
    rw [h.rel.N];exact Nat.lt_succ_self _
   ·intro reg hreg
    simp only [Me.mint] at hreg
    rw [if_pos h.rel.N.symm] at hreg
    cases hreg
    exact q5
  ·intro d s b nn' ad hm hb'
   cases hf:F' ad with
   | none=>rfl
   | some v =>
    rcases (q2 ad v hf).2 with h5 | h5
    ·rw [h.rel.Fbox d s b nn' ad hm hb'] at h5;cases h5
    ·rw [hb'] at h5
     rcases hown b h5 with h6 | ⟨reg,h6,h7⟩
     ·have:=h.rel.box_lt hm;omega
     ·obtain ⟨k,_,hk⟩:=hreg0 reg h6
      exact absurd h7.symm (h.rel.tbox k reg d s b nn' hk hm)
  ·intro d s b nn' hm
   refine hnot b (h.rel.box_lt hm) fun reg hreg e=>?_
   obtain ⟨k,_,hk⟩:=hreg0 reg hreg
   exact h.rel.tbox k reg d s b nn' hk hm e.symm
  ·intro k r' hk hne
   obtain ⟨_,_,q⟩:=h.rel.tok k _ hk
   obtain ⟨_,_,_,cur,e',hh,_,hno⟩:=q r' rfl
   have hlt:=(Array.getElem?_eq_some_iff.1 hh).1
   have hdiff:∀ reg,oo=some reg→r'.g≠reg.g:=by
    intro reg hreg e
    obtain ⟨k2,hk2,hkt⟩:=hreg0 reg hreg
    have:=h.rel.tsep k k2 r' reg hk hkt e
    subst this
    exact hne hk2.symm
   refine ⟨hnot _ hlt hdiff,fun ad had hoff=>?_⟩
   cases hf:F' ad with
   | none=>rfl
   | some v =>
    rcases (q2 ad v hf).2 with h5 | h5
    ·rw [hno ad had hoff] at h5;cases h5
    ·rcases hown _ h5 with h6 | ⟨reg,h6,h7⟩
     ·omega
     ·rw [had] at h7;exact absurd h7 (hdiff reg h6)
  ·intro reg hreg
   obtain ⟨p1,p2,p3,p4⟩:=q6 reg hreg
   refine ⟨hbase _ p1,p2,p3,p4,fun k r' hk hne e=>?_,fun d s b nn' hm e=>?_⟩
   ·obtain ⟨_,_,q⟩:=h.rel.tok k _ hk
    obtain ⟨_,_,_,cur,e',hh,_⟩:=q r' rfl
    have hlt:=(Array.getElem?_eq_some_iff.1 hh).1
    rcases hown _ p1 with h6 | ⟨reg0,h6,h7⟩
    ·omega
    ·obtain ⟨k2,hk2,hkt⟩:=hreg0 reg0 h6
     have:=h.rel.tsep k k2 r' reg0 hk hkt (e.trans h7)
     subst this
     exact hne hk2.symm
   ·rcases hown _ p1 with h6 | ⟨reg0,h6,h7⟩
    ·have:=h.rel.box_lt hm;omega
    ·obtain ⟨k2,hk2,hkt⟩:=hreg0 reg0 h6
     exact h.rel.tbox k2 reg0 d s b nn' hkt hm (h7.symm.trans e)
  ·intro ad v hv
   rcases (q2 ad v hv).2 with h5 | h5
   ·exact .inl h5
   ·exact .inr (hbase _ h5)
  ·intro k r' ad hk hne had hno
   obtain ⟨_,_,q⟩:=h.rel.tok k _ hk
   obtain ⟨_,_,_,cur,e',hh,_⟩:=q r' rfl
   have hlt:=(Array.getElem?_eq_some_iff.1 hh).1
   cases hf:F' ad with
   | none=>rfl
   | some v =>
    rcases (q2 ad v hf).2 with h5 | h5
    ·rw [hno] at h5;cases h5
    ·rw [had] at h5
     rcases hown _ h5 with h6 | ⟨reg0,h6,h7⟩
     ·omega
     ·obtain ⟨k2,hk2,hkt⟩:=hreg0 reg0 h6
      have:=h.rel.tsep k k2 r' reg0 hk hkt h7
      subst this
      exact absurd hk2.symm hne
  ·intro c hc
   have hlt:=h.rel.dpi.lt hc
   have hdiff:∀ reg,oo=some reg→c≠reg.g:=by
    intro reg hreg e
    obtain ⟨k2,_,hkt⟩:=hreg0 reg hreg
    exact h.rel.dpi.reg hc hkt e.symm
   refine ⟨hnot c hlt hdiff,fun ad had=>?_,fun reg hreg e=>?_⟩
   ·cases hf:F' ad with
    | none=>rfl
    | some v =>
     rcases (q2 ad v hf).2 with h5 | h5
     ·rw [h.rel.dpi.F hc had] at h5;cases h5
     ·rw [had] at h5
      rcases hown _ h5 with h6 | ⟨reg0,h6,h7⟩
      ·omega
      ·exact absurd h7 (hdiff reg0 h6)
   ·rcases hown _ (q6 reg hreg).1 with h6 | ⟨reg0,h6,h7⟩
    ·omega
    ·exact hdiff reg0 h6 (e.symm.trans h7)
 have hAx:∀ args' v,QBv P w0.gl g' args' v→QBu P w0.gl g ((g' - Q1) % 64) args' v:=by
  intro args' v hA
  have:=hA.2.2.2.2.1 h1 h1b
  rw [h2] at this
  exact this
 unfold QzD at hs
 split at hs
 case h_3=>cases hs
 ·rename_i tok t xs hi
  obtain ⟨hlv,hs⟩:=Qn hs
  obtain ⟨v,k1,hA⟩:=H.con m _ _ _ r hs
  unfold QBi at k1
  split at k1
  case h_2=>cases k1
  rename_i t' ys
  split at k1
  case h_2=>cases k1
  rename_i ys' hcast
  obtain ⟨et,rfl⟩:=castL?_eq hcast
  subst et
  have hil:(g' - Q1) % 64<args.length:=(List.getElem?_eq_some_iff.1 hi).1
  obtain ⟨u,hu⟩:∃ u,vals[(g' - Q1) % 64]? = some u:=⟨_,List.getElem?_eq_getElem (by omega)⟩
  obtain ⟨oo,ho⟩:=h.rel.live tok hlv
  have hru:=hrel _ _ u hi hu
  cases hru with
  | own _ _ _ _ hdd hN hgr =>
   have hw:=hAx _ _ hA
   refine main _ t' ys (some tok) oo u xs.length hw (by rw [List.length_set];exact hlen) (fun j c u' hc hu'=>?_) hu (hgr oo ho) (fun k hk=>by cases hk;exact ⟨hlv,ho⟩) (fun e=>by cases e) k1
   rw [List.getElem?_set] at hc
   split at hc
   ·rename_i hj
    cases hc
    subst hj
    rw [hu] at hu'
    cases hu'
    exact .d _ _ _ hdd
   ·exact hrel j c u' hc hu'
 ·rename_i hi
  obtain ⟨v,k1,hA⟩:=H.con m _ _ _ r hs
  unfold QAM at k1
  split at k1
  case h_2=>cases k1
  rename_i t' ys
  have hil:(g' - Q1) % 64<args.length:=(List.getElem?_eq_some_iff.1 hi).1
  obtain ⟨u,hu⟩:∃ u,vals[(g' - Q1) % 64]? = some u:=⟨_,List.getElem?_eq_getElem (by omega)⟩
  have:=(hrel _ _ u hi hu).nils_inv
  subst this
  exact main _ t' ys none none _ 0 (hAx _ _ hA) hlen hrel hu ⟨rfl,rfl⟩ (fun k hk=>by cases hk) (fun _=>rfl) k1
theorem QAa (H:CtxOk P w0.gl CF root) {dp nn:Nat} {o:Oper} {K:Nat→Z9 R} {m:Nat} {st:St} {M:Me} {a:Act} {w:World} {r:R} (h:RelA P base w0 dp nn st θ M a w) (hd:QfD nn o=true) {g g':Nat} {args caps:List V} {vals cvals:List Value} {arr:Array Value}
  (hlen:args.length=vals.length) (hrel:∀ (i:Nat) c u,args[i]? = some c→vals[i]? = some u→RelV M c u) (hclen:caps.length=cvals.length) (hcrel:∀ (i:Nat) c u,caps[i]? = some c→cvals[i]? = some u→RelV M c u) (hcle:V.le.leL dp caps=true)
  (hvals:(vals++cvals).toArray=arr) (hexec:JG P g=true→(execOp a.eval o).run P w=.ok (.enter g arr) w) (h1:Yc≤g') (h1b:g'<Vg) (h2:g' - Yc=g)
  (hs:QzE (CF m).con st g' g args caps dp o.dst (K m)=some r) (Q:Exit→Act→World→Prop):o.wp P a w (Fam P base w0 dp nn θ m K r) Q:=by
 unfold QzE at hs
 split at hs
 case h_2=>cases hs
 rename_i ps hps
 obtain ⟨hnd,hs1⟩:=Qn hs
 clear hs
 have hnd:=QnO hnd
 split at hs1
 case h_2=>cases hs1
 rename_i cs x hcs htk
 obtain ⟨v,k1,hA⟩:=H.con m _ _ _ r hs1
 split at k1
 case h_2=>cases k1
 rename_i rt outs
 obtain ⟨h0,hk⟩:=Qn k1
 clear k1
 simp only [Bool.and_eq_true] at h0
 obtain ⟨⟨⟨hscl,hol⟩,hok⟩,hself⟩:=h0
 have hol:=Nat.eq_of_beq_eq_true hol
 have hA:=hA.2.2.2.2.2.1 h1 h1b
 rw [h2] at hA
 obtain ⟨hb,hall⟩:=hA rt outs rfl
 obtain ⟨bs,e1,e2,e3⟩:=Qsx hps hclen hcrel
 subst e1
 obtain ⟨hcl,hcat⟩:=QnP hcs
 have hbn:=QqF h.rel hnd e2 e3
 have hple:=Qyw hps hcle
 obtain ⟨oo,hsp,hsn⟩:∃ oo,(∀ k,x=some k→st.lv k=true∧M.τ k=some oo)∧(x=none→oo=none):=by
  cases x with
  | none=>exact ⟨none,fun k hk=>(by cases hk),fun _=>rfl⟩
  | some k =>
   obtain ⟨p,hp,t,xs,hbx⟩:=Qen (st:=st) (ps:=ps) (k:=k) (by rw [htk];exact List.mem_cons_self)
   obtain ⟨j,hj⟩:=List.getElem?_of_mem hp
   have hjl:j<cs.length:=by rw [hcl];exact (List.getElem?_eq_some_iff.1 hj).1
   have hv:=hcat j p _ hj (List.getElem?_eq_getElem hjl)
   unfold Qv8 at hv
   rw [hbx] at hv
   obtain ⟨hlv,_⟩:=Qn hv
   obtain ⟨oo,ho⟩:=h.rel.live k hlv
   exact ⟨oo,fun k' hk'=>by cases hk';exact ⟨hlv,ho⟩,fun e=>by cases e⟩
 have hreg0:∀ reg,oo=some reg→∃ k,x=some k∧M.τ k=some (some reg):=by
  intro reg hreg
  cases x with
  | none=>rw [hsn rfl] at hreg;cases hreg
  | some k=>exact ⟨k,rfl,by rw [(hsp k rfl).2,hreg]⟩
 have hbox:∀ b,b∈bs→∃ p∈ps,∃ n,M.μ p.1 p.2=some (b,n):=by
  intro b hb
  obtain ⟨j,hj⟩:=List.getElem?_of_mem hb
  have hjl:j<ps.length:=by rw [← e2];exact (List.getElem?_eq_some_iff.1 hj).1
  exact ⟨ps[j],List.getElem_mem hjl,e3 j _ _ (List.getElem?_eq_getElem hjl) hj⟩
 have hregbs:∀ reg,oo=some reg→reg.g∉bs:=by
  intro reg hreg hm
  obtain ⟨k,_,hk⟩:=hreg0 reg hreg
  obtain ⟨p,_,n,hp⟩:=hbox _ hm
  exact h.rel.tbox k reg _ _ _ _ hk hp rfl
 have hcalls:=hall M w vals bs oo (w0.ok.mono h.rel.F0) h.rel.F (by rw [List.length_append,hlen,hcl,e2]) (by rw [hol,e2]) (fun j c u hc hu=>by
   have hj:j<args.length:=by rw [hlen];exact (List.getElem?_eq_some_iff.1 hu).1
   rw [List.getElem?_append_left hj] at hc
   exact hrel j c u hc hu) hbn (fun j b c hb hc=>by
   rw [List.getElem?_append_right (by omega),show vals.length+j - args.length=j by omega] at hc
   have hjl:j<ps.length:=by rw [← e2];exact (List.getElem?_eq_some_iff.1 hb).1
   have hp:=List.getElem?_eq_getElem hjl
   obtain ⟨T,arr,k1,k2⟩:=QvE h.rel e2 e3 htk (fun k hk=>(hsp k hk).2) hsn hple hp hb (hcat j _ c hp hc)
   obtain ⟨n,hm⟩:=e3 j _ b hp hb
   exact ⟨T,arr,k1,fun a ha=>h.rel.Fbox _ _ _ _ a hm ha,k2⟩) (fun reg hreg=>by
   obtain ⟨k,_,hk⟩:=hreg0 reg hreg
   obtain ⟨_,_,q⟩:=h.rel.tok k _ hk
   obtain ⟨_,q2,q3,q4⟩:=q reg rfl
   exact ⟨q2,q3,hregbs reg hreg,q4⟩)
 rw [hvals] at hcalls
 unfold Oper.wp
 rw [hexec hb,Oper.upon_enter]
 refine hcalls.mono fun e w'=>?_
 rintro ⟨u',F',og,rfl,q1,q2,q3,q4,q5,q6⟩
 have hown:∀ c,Own (QtY w bs oo) c→w.heap.size≤c∨c∈bs∨∃ reg,oo=some reg∧c=reg.g:=by
  intro c hc
  rcases hc with hc | hc
  ·exact .inl hc
  ·unfold QtY at hc
   rcases List.mem_append.1 hc with hc2 | hc2
   ·exact .inr (.inl hc2)
   ·cases oo with
    | some reg=>exact .inr (.inr ⟨reg,rfl,by simpa using hc2⟩)
    | none=>cases hc2
 have hnot:∀ c,c<w.heap.size→c∉bs→(∀ reg,oo=some reg→c≠reg.g)→w'.heap[c]? = w.heap[c]?:=by
  intro c hc hm hne
  refine q3.block c fun ho=>?_
  rcases hown c ho with h1 | h1 | ⟨reg,h1,h2⟩
  ·omega
  ·exact hm h1
  ·exact hne reg h1 h2
 have hregb:∀ reg,oo=some reg→Own base reg.g∧reg.g<w.heap.size:=by
  intro reg hreg
  obtain ⟨k,_,hk⟩:=hreg0 reg hreg
  obtain ⟨_,_,q⟩:=h.rel.tok k _ hk
  obtain ⟨p1,_,_,cur,e',hh,_⟩:=q reg rfl
  exact ⟨p1,(Array.getElem?_eq_some_iff.1 hh).1⟩
 have hbsb:∀ b,b∈bs→Own base b∧b<w.heap.size:=by
  intro b hb
  obtain ⟨p,hp,n,hm⟩:=hbox b hb
  refine ⟨?_,h.rel.box_lt hm⟩
  obtain ⟨j,hj⟩:=List.getElem?_of_mem hp
  have hjl:j<cs.length:=by rw [hcl];exact (List.getElem?_eq_some_iff.1 hj).1
  have hv:=hcat j p _ hj (List.getElem?_eq_getElem hjl)
  have hcells:∃ l,st.bx p.1 p.2=.cells l:=by
   unfold Qv8 at hv
   split at hv
   ·rename_i hbx;exact ⟨_,hbx⟩
   ·rename_i hbx;exact ⟨_,hbx⟩
   ·rename_i hbx;exact ⟨_,hbx⟩
   ·rename_i hbx;exact ⟨_,hbx⟩
   ·cases hv
  obtain ⟨l,hl⟩:=hcells
  obtain ⟨b',T,arr,k1,k2,_⟩:=h.rel.cells (hple p hp) hl
  rw [hm] at k1
  cases k1
  exact k2
 have hbase:∀ c,Own (QtY w bs oo) c→Own base c:=by
  intro c hc
  rcases hown c hc with h1 | h1 | ⟨reg,h1,h2⟩
  ·exact .inl (Nat.le_trans h.rel.hb h1)
  ·exact (hbsb c h1).1
  ·rw [h2];exact (hregb reg h1).1
 have hFbs:∀ b,b∈bs→∀ a,a.block=b→F' a=none:=by
  intro b hb a ha
  obtain ⟨j,hj⟩:=List.getElem?_of_mem hb
  have hjl:j<outs.length:=by rw [hol,← e2];exact (List.getElem?_eq_some_iff.1 hj).1
  obtain ⟨_,_,_,k,_⟩:=q5 j b _ hj (List.getElem?_eq_getElem hjl)
  exact k a ha
 have hbelow:BelowB base w0.w w':=h.rel.below.trans ⟨q3.os,q3.tape,q3.output,q3.size,fun c hc=>q3.block c fun ho=>hc (hbase c ho),q3.drawn⟩
 have hFbox:∀ d s b n ad,M.μ d s=some (b,n)→ad.block=b→F' ad=none:=by
  intro d s b nn' ad hm hb'
  by_cases hbb:b∈bs
  ·exact hFbs b hbb ad hb'
  cases hf:F' ad with
  | none=>rfl
  | some v =>
   rcases (q2 ad v hf).2 with h5 | h5
   ·rw [h.rel.Fbox d s b nn' ad hm hb'] at h5;cases h5
   ·rw [hb'] at h5
    rcases hown b h5 with h6 | h6 | ⟨reg,h6,h7⟩
    ·have:=h.rel.box_lt hm;omega
    ·exact absurd h6 hbb
    ·obtain ⟨k,_,hk⟩:=hreg0 reg h6
     exact absurd h7.symm (h.rel.tbox k reg d s b nn' hk hm)
 have hM:M.le dp (M.mint F' x og):=Me.mint_le q1 x og
 have hmint:=h.rel.mintB q1 x og (fun k hk=>(hsp k hk).1) (fun a v hv=>(q2 a v hv).1) hFbox (bx':=QnA st.nt ps outs st.bx) ?_ ?_ ?_ q3.size hbelow ?_ ?_ ?_
 ·have e9:st.after x=st.minted x:=by cases x<;>rfl
  rw [e9] at hk
  refine ⟨m,Nat.le_refl _,_,_,(RelA.mk hmint h.size h.defers).put (v:=rt) (YQ hd) (q4 _ rfl) ?_,hk⟩
  unfold V.scl at hscl
  split at hscl
  ·rfl
  ·rfl
  ·rfl
  ·cases hscl
 ·intro d s hds
  by_cases hpm:(d,s)∈ps
  ·obtain ⟨j,hj⟩:=List.getElem?_of_mem hpm
   have hjo:j<outs.length:=by rw [hol];exact (List.getElem?_eq_some_iff.1 hj).1
   have hjb:j<bs.length:=by omega
   obtain ⟨n,hm⟩:=e3 j _ _ hj (List.getElem?_eq_getElem hjb)
   obtain ⟨T,arr',k1,_,k3⟩:=q5 j _ _ (List.getElem?_eq_getElem hjb) (List.getElem?_eq_getElem hjo)
   have hcj:j<cs.length:=by rw [hcl];exact (List.getElem?_eq_some_iff.1 hj).1
   have hv:=hcat j _ _ hj (List.getElem?_eq_getElem hcj)
   have hobx:QnA st.nt ps outs st.bx d s=QAO st.nt outs[j] (st.bx d s):=Qwy (p:=(d,s)) hnd hj (List.getElem?_eq_getElem hjo)
   rw [hobx]
   have hob:=(hbsb bs[j] (List.getElem_mem hjb)).1
   have hμ0:∃ l,st.bx d s=.cells l:=by
    unfold Qv8 at hv
    split at hv
    ·rename_i hbx;exact ⟨_,hbx⟩
    ·rename_i hbx;exact ⟨_,hbx⟩
    ·rename_i hbx;exact ⟨_,hbx⟩
    ·rename_i hbx;exact ⟨_,hbx⟩
    ·cases hv
   obtain ⟨l,hl⟩:=hμ0
   obtain ⟨b',T0,arr0,m1,m2,m3,m4,m5⟩:=h.rel.cells hds hl
   simp only at hm
   rw [hm] at m1
   cases m1
   have hov:=List.getElem?_eq_getElem hjo
   revert k3 hov
   generalize outs[j]=ov
   intro k3 hov
   unfold Qsw at k3
   split at k3
   ·obtain ⟨u,rfl,g1,g2⟩:=k3
    refine ⟨bs[j],T,#[u],hm,hob,k1,⟨rfl,fun i c u2 hc hu=>?_,fun u2 hu=>?_⟩,rfl⟩
    ·cases i with
     | zero =>
      simp only [List.getElem?_cons_zero,Option.some.injEq] at hc hu
      subst hc;subst hu
      refine .own _ _ _ _ g1 (by show st.nt<M.N+1;rw [h.rel.N];exact Nat.lt_succ_self _) fun reg hreg=>?_
      simp only [Me.mint] at hreg
      rw [if_pos h.rel.N.symm] at hreg
      cases hreg
      exact g2
     | succ i=>simp at hc
    ·rw [List.mem_singleton.1 hu]
     obtain ⟨_,_,g3,_⟩:=g1
     simp only [List.cons.injEq,and_true] at g3
     rw [g3];rfl
   ·subst k3
    obtain ⟨T2,arr2,n1,n2⟩:=QvE h.rel e2 e3 htk (fun k hk=>(hsp k hk).2) hsn hple hj (List.getElem?_eq_getElem hjb) hv
    have hsf:=Qsy hself j (List.getElem?_eq_getElem hcj) hov
    rw [m3] at n1
    cases n1
    generalize cs[j]=cv at hsf n2
    have n3:arr0=#[.func (.func g) #[] (Qpw bs).toArray]:=by
     unfold QjB at n2
     split at n2
     ·simp [V.self?] at hsf
     ·simp [V.self?] at hsf
     ·exact n2
     ·simp [V.self?] at hsf
     ·exact n2.elim
    subst n3
    have e8:QAO st.nt (V.d Ty.bool ‹Bool›) (st.bx d s)=.cells l:=hl
    rw [e8]
    exact ⟨bs[j],T,_,hm,hob,k1,m4.mono (hM.down hds) m5,m5⟩
   ·rename_i cs2
    obtain ⟨t,y,rfl,g1⟩:=k3
    exact ⟨bs[j],T,arr',hm,hob,k1,Yf (M:=M.mint F' x og) g1,GP d t y⟩
   ·exact k3.elim
  ·rw [QqE hpm]
   have hb0:=h.rel.bx d s hds
   have hsame:∀ b n,M.μ d s=some (b,n)→w'.heap[b]? = w.heap[b]?:=by
    intro b n hm
    refine hnot b (h.rel.box_lt hm) (fun hbb=>?_) fun reg hreg e=>?_
    ·obtain ⟨p,hp,n',hm'⟩:=hbox b hbb
     obtain ⟨e4,e5⟩:=h.rel.sep _ _ _ _ _ _ _ hm hm'
     exact hpm (by rw [show (d,s)=p from Prod.ext e4 e5];exact hp)
    ·obtain ⟨k,_,hk⟩:=hreg0 reg hreg
     exact h.rel.tbox k reg d s b n hk hm e.symm
   revert hb0
   cases st.bx d s with
   | none=>exact id
   | cells cs =>
    rintro ⟨b,T,arr,h1,h2,h3,h4,h5⟩
    exact ⟨b,T,arr,h1,h2,by rw [hsame _ _ h1];exact h3,h4.mono (hM.down hds) h5,h5⟩
   | rows ty xs =>
    rintro ⟨b,T,arr,h1,h2,h3,h4,h5,h6⟩
    exact ⟨b,T,arr,h1,h2,by rw [hsame _ _ h1];exact h3,h4,h5,fun i x hx=>(h6 i x hx).mono q1⟩
   | map k v es =>
    rintro ⟨b,ms,c,h1,h2,h3,h4⟩
    exact ⟨b,ms,c,h1,h2,by rw [hsame _ _ h1];exact h3,h4.mono q1⟩
 ·intro k r' hk hne
  obtain ⟨_,_,q⟩:=h.rel.tok k _ hk
  obtain ⟨_,_,_,cur,e',hh,_,hno⟩:=q r' rfl
  have hlt:=(Array.getElem?_eq_some_iff.1 hh).1
  have hnb:r'.g∉bs:=by
   intro hm
   obtain ⟨p,_,n,hp⟩:=hbox _ hm
   exact h.rel.tbox k r' _ _ _ _ hk hp rfl
  have hdiff:∀ reg,oo=some reg→r'.g≠reg.g:=by
   intro reg hreg e
   obtain ⟨k2,hk2,hkt⟩:=hreg0 reg hreg
   have:=h.rel.tsep k k2 r' reg hk hkt e
   subst this
   exact hne hk2.symm
  refine ⟨hnot _ hlt hnb hdiff,fun ad had hoff=>?_⟩
  cases hf:F' ad with
  | none=>rfl
  | some v =>
   rcases (q2 ad v hf).2 with h5 | h5
   ·rw [hno ad had hoff] at h5;cases h5
   ·rw [had] at h5
    rcases hown _ h5 with h6 | h6 | ⟨reg,h6,h7⟩
    ·omega
    ·exact absurd h6 hnb
    ·exact absurd h7 (hdiff reg h6)
 ·intro reg hreg
  obtain ⟨p1,p2,p3,p0,p4⟩:=q6 reg hreg
  refine ⟨hbase _ p1,p2,p3,p4,fun k r' hk hne e=>?_,fun d s b nn' hm e=>?_⟩
  ·obtain ⟨_,_,q⟩:=h.rel.tok k _ hk
   obtain ⟨_,_,_,cur,e',hh,_⟩:=q r' rfl
   have hlt:=(Array.getElem?_eq_some_iff.1 hh).1
   rcases hown _ p1 with h6 | h6 | ⟨reg0,h6,h7⟩
   ·omega
   ·exact p0 h6
   ·obtain ⟨k2,hk2,hkt⟩:=hreg0 reg0 h6
    have:=h.rel.tsep k k2 r' reg0 hk hkt (e.trans h7)
    subst this
    exact hne hk2.symm
  ·rcases hown _ p1 with h6 | h6 | ⟨reg0,h6,h7⟩
   ·have:=h.rel.box_lt hm;omega
   ·exact p0 h6
   ·obtain ⟨k2,hk2,hkt⟩:=hreg0 reg0 h6
    exact h.rel.tbox k2 reg0 d s b nn' hkt hm (h7.symm.trans e)
 ·intro ad v hv
  rcases (q2 ad v hv).2 with h5 | h5
  ·exact .inl h5
  ·exact .inr (hbase _ h5)
 ·intro k r' ad hk hne had hno
  obtain ⟨_,_,q⟩:=h.rel.tok k _ hk
  obtain ⟨_,_,_,cur,e',hh,_⟩:=q r' rfl
  have hlt:=(Array.getElem?_eq_some_iff.1 hh).1
  cases hf:F' ad with
  | none=>rfl
  | some v =>
   rcases (q2 ad v hf).2 with h5 | h5
   ·rw [hno] at h5;cases h5
   ·rw [had] at h5
    rcases hown _ h5 with h6 | h6 | ⟨reg0,h6,h7⟩
    ·omega
    ·obtain ⟨p,_,n,hp⟩:=hbox _ h6
     exact absurd rfl (h.rel.tbox k r' _ _ _ _ hk hp)
    ·obtain ⟨k2,hk2,hkt⟩:=hreg0 reg0 h6
     have:=h.rel.tsep k k2 r' reg0 hk hkt h7
     subst this
     exact absurd hk2.symm hne
 ·intro c hc
  have hlt:=h.rel.dpi.lt hc
  have hcb:c∉bs:=by
   intro hm
   obtain ⟨p,_,n,hp⟩:=hbox _ hm
   exact h.rel.dpi.box hc hp rfl
  have hdiff:∀ reg,oo=some reg→c≠reg.g:=by
   intro reg hreg e
   obtain ⟨k2,_,hkt⟩:=hreg0 reg hreg
   exact h.rel.dpi.reg hc hkt e.symm
  refine ⟨hnot c hlt hcb hdiff,fun ad had=>?_,fun reg hreg e=>?_⟩
  ·cases hf:F' ad with
   | none=>rfl
   | some v =>
    rcases (q2 ad v hf).2 with h5 | h5
    ·rw [h.rel.dpi.F hc had] at h5;cases h5
    ·rw [had] at h5
     rcases hown _ h5 with h6 | h6 | ⟨reg0,h6,h7⟩
     ·omega
     ·exact absurd h6 hcb
     ·exact absurd h7 (hdiff reg0 h6)
  ·obtain ⟨p1,_,_,p0,_⟩:=q6 reg hreg
   rw [e] at p0 p1
   rcases hown _ p1 with h6 | h6 | ⟨reg0,h6,h7⟩
   ·omega
   ·exact hcb h6
   ·exact hdiff reg0 h6 h7
theorem QAb (H:CtxOk P w0.gl CF root) {dp nn:Nat} {o:Oper} {K:Nat→Z9 R} {m:Nat} {st:St} {M:Me} {a:Act} {w:World} {r:R} (h:RelA P base w0 dp nn st θ M a w) (hd:QfD nn o=true) {g g':Nat} {args:List V} {vals:List Value} {arr:Array Value}
  (hlen:args.length=vals.length) (hrel:∀ (i:Nat) c u,args[i]? = some c→vals[i]? = some u→RelV M c u) (hvals:vals.toArray=arr) (hexec:JG P g=true→(execOp a.eval o).run P w=.ok (.enter g arr) w) (h1:Vg≤g') (h2:g' - Vg=g)
  (hs:QBp (CF m).con st g' args dp o.dst (K m)=some r) (Q:Exit→Act→World→Prop):o.wp P a w (Fam P base w0 dp nn θ m K r) Q:=by
 unfold QBp at hs
 split at hs
 case h_2=>cases hs
 rename_i tok rest
 split at hs
 case h_2=>cases hs
 rename_i t xs hb
 obtain ⟨hlv,hs1⟩:=Qn hs
 clear hs
 obtain ⟨v,k1,hA⟩:=H.con m _ _ _ r hs1
 split at k1
 case h_2=>cases k1
 rename_i t' ys
 split at k1
 case h_2=>cases k1
 rename_i ys' hcast
 obtain ⟨et,rfl⟩:=castL?_eq hcast
 subst et
 have hA:=hA.2.2.2.2.2.2 h1
 rw [h2] at hA
 obtain ⟨hen,hall⟩:=hA _ xs ys rest rfl rfl
 obtain ⟨uv,vals',rfl⟩:∃ uv vals',vals=uv::vals':=by
  cases vals with
  | nil=>cases hlen
  | cons uv vals'=>exact ⟨uv,vals',rfl⟩
 have hru:=hrel 0 _ uv rfl rfl
 obtain ⟨oo,ho⟩:=h.rel.live tok hlv
 have hraw:=hru.raw_inv.2 oo ho
 obtain ⟨_,r2,r3⟩:=h.rel.rw tok _ hb
 obtain ⟨_,_,q⟩:=h.rel.tok tok _ ho
 have his:Qz8 M.F t' xs oo w:=by
  refine ⟨fun e=>r2 (by rw [ho,e]),fun reg hreg=>?_⟩
  subst hreg
  obtain ⟨n1,n2,n3,cur,e,n4,n5⟩:=r3 reg ho
  obtain ⟨_,n6,n7,cur',e',n8,n9,_⟩:=q reg rfl
  rw [n4] at n8
  cases n8
  exact ⟨n1,n2,n6,n7,n3,cur,e,n4,n9,n5⟩
 have hcalls:=hall M w uv vals' oo (w0.ok.mono h.rel.F0) h.rel.F (by simpa using hlen) (fun i c u hc hu=>hrel (i+1) c u hc hu) hraw his
 rw [hvals] at hcalls
 unfold Oper.wp
 rw [hexec hen,Oper.upon_enter]
 refine hcalls.mono fun e w'=>?_
 rintro ⟨u',og,rfl,q3,q4,q5,q6,q7⟩
 have hnot:∀ c,c<w.heap.size→(∀ reg,oo=some reg→c≠reg.g)→w'.heap[c]? = w.heap[c]?:=by
  intro c hc hne
  refine q3.block c fun hown=>?_
  rcases hown with h4 | h4
  ·exact absurd hc (Nat.not_lt.2 h4)
  ·unfold QiW at h4
   cases oo with
   | none=>cases h4
   | some reg=>exact hne reg rfl (by simpa using h4)
 have hregO:∀ reg,oo=some reg→Own base reg.g:=fun reg hreg=>(q reg hreg).1
 have hbase:∀ c,Own (QiW w oo) c→Own base c:=by
  intro c hc
  rcases hc with h4 | h4
  ·exact .inl (Nat.le_trans h.rel.hb h4)
  ·unfold QiW at h4
   cases oo with
   | none=>cases h4
   | some reg=>rw [show c=reg.g by simpa using h4];exact hregO reg rfl
 have hFg:∀ reg,oo=some reg→∀ a,a.block=reg.g→M.F a=none:=fun reg hreg=>(his.2 reg hreg).2.2.2.2.1
 have hbelow:BelowB base w0.w w':=h.rel.below.trans ⟨q3.os,q3.tape,q3.output,q3.size,fun c hc=>q3.block c fun ho=>hc (hbase c ho),q3.drawn⟩
 have hmint:=h.rel.mint (w':=w') (.refl _) (some tok) og (fun k' hk'=>by cases hk';exact hlv)
  (fun ad u hu=>by
   have h0:=h.rel.F ad u hu
   exact h0.block (hnot _ h0.lt fun reg hreg e=>by rw [hFg reg hreg ad e] at hu;cases hu))
  (fun d s b n ad hm hb=>h.rel.Fbox d s b n ad hm hb)
  (fun d s b n hm=>hnot b (h.rel.box_lt hm) fun reg hreg e=>h.rel.tbox tok reg d s b n (by rw [ho,hreg]) hm e.symm)
  (fun k' r hk' hne=>by
   obtain ⟨_,_,h3'⟩:=h.rel.tok k' _ hk'
   obtain ⟨_,_,_,cur,e,hh,_,hno⟩:=h3' r rfl
   refine ⟨hnot _ (Array.getElem?_eq_some_iff.1 hh).1 fun reg hreg e=>?_,hno⟩
   exact hne (by rw [h.rel.tsep k' tok r reg hk' (by rw [ho,hreg]) e]))
  (fun r' hr'=>by
   obtain ⟨reg,hreg,e1⟩:=q5 r' hr'
   obtain ⟨n1,n2,n3,n4,n5,cur,e,n6,n7,n8⟩:=q7 r' hr'
   refine ⟨by rw [e1];exact hregO reg hreg,n3,n4,⟨cur,e,n6,n7,fun ad hb _=>n5 ad hb⟩,?_,?_⟩
   ·intro k' r2 hk' hne e2
    exact hne (by rw [h.rel.tsep k' tok r2 reg hk' (by rw [ho,hreg]) (e2.trans e1)])
   ·intro d s b n hm e2
    exact h.rel.tbox tok reg d s b n (by rw [ho,hreg]) hm (e1.symm.trans e2))
  q3.size hbelow (fun _ _ h=>.inl h) (fun _ _ _ _ _ _ h=>h) (fun c hc=>by
   refine ⟨hnot c (h.rel.dpi.lt hc) fun reg hreg e=>h.rel.dpi.reg hc (show M.τ tok=some (some reg) by rw [ho,hreg]) e.symm,fun a ha=>h.rel.dpi.F hc ha,fun r' hr' e=>?_⟩
   obtain ⟨reg,hreg,e1⟩:=q5 r' hr'
   exact h.rel.dpi.reg hc (show M.τ tok=some (some reg) by rw [ho,hreg]) (e1.symm.trans e))
 have hτ:(M.mint M.F (some tok) og).τ st.nt=some og:=by
  simp only [Me.mint];rw [if_pos h.rel.N.symm]
 have hset:=hmint.setR (k:=st.nt) (b:=⟨_,ys⟩) ⟨QkY st _,fun hh=>q6 (by rw [hτ] at hh;exact Option.some.inj hh),fun reg' hr=>by
  rw [hτ] at hr
  obtain ⟨n1,n2,n3,n4,n5,cur,e,n6,n7,n8⟩:=q7 reg' (Option.some.inj hr)
  exact ⟨n1,n2,n5,cur,e,n6,n8⟩⟩
 refine ⟨m,Nat.le_refl _,_,_,(RelA.mk hset h.size h.defers).put (v:=.raw st.nt) (YQ hd) (.raw _ _ (by show st.nt<M.N+1;rw [h.rel.N];exact Nat.lt_succ_self _) fun o' ho'=>?_) rfl,k1⟩
 rw [hτ] at ho'
 cases ho'
 exact q4
theorem QsA (H:CtxOk P w0.gl CF root) (HI:Quw P base w0 CF root) {dp nn:Nat} {path:List Nat} {here:Nat} {o:Oper} {K:Nat→Z9 R} (hsub:∀ g,Vq (CF 0).I (here::path)=some g→∀ m x,x∈(CF m).lab dp (here::path) g (fun v st=>Qqu v st fun v st=>K m (st.put dp o.dst v))→x∈root m)
  {m:Nat} {st:St} {M:Me} {a:Act} {w:World} {r:R} (h:RelA P base w0 dp nn st θ M a w) (hd:QfD nn o=true) (hc:Ef o=true) (hs:Jw (CF m) dp path here o st (K m)=some r) (Q:Exit→Act→World→Prop) :
  o.wp P a w (Fam P base w0 dp nn θ m K r) Q:=by
 unfold Ef at hc
 split at hc
 case h_2=>cases hc
 rename_i f args argTypes hop
 simp only [Jw,hop] at hs
 split at hs
 case h_2=>cases hs
 rename_i g caps hf
 have hfv:=h.ev f
 rw [hf] at hfv
 obtain ⟨hfr,hfl⟩:=hfv
 obtain ⟨arr,hfval,hcl,hca⟩:∃ arr,a.eval f=.func (.func g) #[] arr∧caps.length=arr.size∧∀ (i:Nat) (c:V) (u:Value),caps[i]? = some c→arr[i]? = some u→RelV M c u:=by
  generalize a.eval f=vf at hfr
  cases hfr with
  | fn g cs arr hl ha=>exact ⟨arr,rfl,hl,ha⟩
 obtain ⟨al,aa,ale⟩:=Qsz h args
 have hlen:(args.toList.map (st.ev dp)++caps).length=((args.map a.eval).toList++arr.toList).length:=by simp [hcl]
 have hrel:∀ (i:Nat) c u,(args.toList.map (st.ev dp)++caps)[i]? = some c→((args.map a.eval).toList++arr.toList)[i]? = some u→RelV M c u:=by
  intro i c u hc hu
  by_cases hi:i<(args.toList.map (st.ev dp)).length
  ·rw [List.getElem?_append_left hi] at hc
   rw [List.getElem?_append_left (by rw [← al];exact hi)] at hu
   exact aa i c u hc hu
  ·rw [List.getElem?_append_right (by omega)] at hc
   rw [List.getElem?_append_right (by omega),← al] at hu
   exact hca _ c u hc (by simpa using hu)
 have hle:V.le.leL dp (args.toList.map (st.ev dp)++caps)=true:=QmG ale hfl
 have hvals:((args.map a.eval).toList++arr.toList).toArray=args.map a.eval++arr:=by simp
 have hexec:JG P g=true→(execOp a.eval o).run P w=.ok (.enter g (args.map a.eval++arr)) w:=by
  intro hb
  simp [execOp,hop,resolve,hfval,Deferred.ofValue,invoke,QdU hb]
 have hI:=H.I_eq m 0
 split at hs
 ·rename_i g' hg
  cases hgg:Nat.beq g g' with
  | false =>
   rw [hgg,cond_false] at hs
   obtain ⟨hlt,hs1⟩:=Qn hs
   clear hs
   have hlt:g<Q2:=US hlt
   obtain ⟨hm1,hm2⟩:=QgG hlt
   cases hgo:Nat.beq (g+Q2) g' with
   | false =>
    rw [hgo,cond_false] at hs1
    cases hgd:Nat.beq (g+ZH) g' with
    | true =>
     rw [hgd,cond_true] at hs1
     have hs2:=hs1
     clear hs1
     have hgd:=Nat.eq_of_beq_eq_true hgd
     subst hgd
     obtain ⟨v,k1,hA⟩:=H.con m _ _ _ r hs2
     obtain ⟨hb,hall⟩:=hA.2.2.1 (Nat.le_add_left _ _) hm2
     rw [Nat.add_sub_cancel] at hb hall
     obtain ⟨l1,l2⟩:=QnJ (st:=st) h.rel.dpi rfl dp _ _ hlen hrel hle
     have hcalls:=hall { M with F:=M.lend w } w _ ((w0.ok.mono h.rel.F0).mono QrQ) (Qpt h.rel.F) l1 l2
     rw [hvals] at hcalls
     unfold Oper.wp
     rw [hexec hb,Oper.upon_enter]
     refine hcalls.mono fun e w'=>?_
     rintro ⟨u,bs,rfl,q3,q4,q5,q6⟩
     have hext:=h.rel.ext (M':=M) (w':=w') (.refl _ _) q3.size (fun k hk=>q3.block k hk) (fun _ _ h=>.inl h) rfl rfl rfl rfl (h.rel.below.trans (q3.toBase h.rel.hb))
     obtain ⟨D',d1,d2,d3,d4,_⟩:=QqD v st M u bs hext q4 q5 (fun c hc=>QjA h.rel (q6 c hc))
     exact ⟨m,Nat.le_refl _,_,_,(RelA.mk d2 h.size h.defers).put (YQ hd) d3 d4,k1⟩
    | false =>
     rw [hgd,cond_false] at hs1
     cases hgw:Nat.beq (g+VY) g' with
     | false =>
      rw [hgw,cond_false] at hs1
      cases hgx:(Nat.ble Q1 g'&&Nat.beq ((g' - Q1) / 64) g) with
      | false =>
       rw [hgx,cond_false] at hs1
       cases hgy:(Nat.ble Yc g'&&Nat.beq (g' - Yc) g) with
       | false =>
        rw [hgy,cond_false] at hs1
        obtain ⟨hgp,hs2⟩:=Qn hs1
        clear hs1
        rw [Bool.and_eq_true] at hgp
        exact QAb H h hd hlen hrel hvals hexec (Nat.le_of_ble_eq_true hgp.1) (Nat.eq_of_beq_eq_true hgp.2) hs2 Q
       | true =>
       rw [hgy,cond_true] at hs1
       have hs2:=hs1
       clear hs1
       have hgp:=hgy
       rw [Bool.and_eq_true] at hgp
       exact QAa H h hd (vals:=(args.map a.eval).toList) (cvals:=arr.toList) al aa (by simpa using hcl) (fun i c u hc hu=>hca i c u hc (by simpa using hu)) hfl hvals hexec (Nat.le_of_ble_eq_true hgp.1) (by have:=Nat.eq_of_beq_eq_true hgp.2;unfold Q2 at hlt;unfold Yc at this;unfold Vg;omega) (Nat.eq_of_beq_eq_true hgp.2) hs2 Q
      | true =>
      rw [hgx,cond_true] at hs1
      have hs2:=hs1
      clear hs1
      have hgp:=hgx
      rw [Bool.and_eq_true] at hgp
      exact Qy6 H h hd hlen hrel hvals hexec (Nat.le_of_ble_eq_true hgp.1) (by have:=Nat.eq_of_beq_eq_true hgp.2;have:=Nat.le_of_ble_eq_true hgp.1;unfold Q1 at this;unfold Q2 at hlt;unfold Q1 Yc at *;omega) (Nat.eq_of_beq_eq_true hgp.2) hs2 Q
     | true =>
     rw [hgw,cond_true] at hs1
     have hs2:=hs1
     clear hs1
     have hgh:=Nat.eq_of_beq_eq_true hgw
     subst hgh
     split at hs2
     case h_2=>cases hs2
     rename_i av kk hargs
     obtain ⟨hok,hs2⟩:=Qn hs2
     obtain ⟨v,k1,hA⟩:=H.con m _ _ _ r hs2
     unfold QBL at k1
     split at k1
     case h_2=>cases k1
     rename_i k' b
     obtain ⟨st',hst',k1⟩:=Option.bind_eq_some_iff.1 k1
     have hA:=hA.2.2.2.1 (Nat.le_add_left _ _) (Qk0 hlt)
     rw [Nat.add_sub_cancel] at hA
     rw [hargs] at hlen hrel hle
     obtain ⟨hb,hall⟩:=hA _ kk k' b rfl rfl
     obtain ⟨ua,uk,hv2⟩:∃ ua uk,((args.map a.eval).toList++arr.toList)=[ua,uk]:=by
      generalize ((args.map a.eval).toList++arr.toList)=l at hlen
      match l,hlen with
      | [ua,uk],_=>exact ⟨ua,uk,rfl⟩
     rw [hv2] at hrel hvals
     have hra:=hrel 0 av ua rfl rfl
     obtain ⟨rfl,hkk⟩:=(hrel 1 _ uk rfl rfl).int_inv
     have hok':=hok
     unfold V.hotOk at hok'
     simp only [Bool.and_eq_true] at hok'
     obtain ⟨⟨⟨hdok,hn⟩,_⟩,hform⟩:=hok'
     have hdeep:Z1 w (st.res av) ua (M.blk av.drs):=by
      cases av with
      | dr k =>
       obtain ⟨bx,hbx⟩:∃ bx,st.dr k=some bx:=by
        unfold V.hotOk at hok
        simp only [V.drs,List.all_cons,List.all_nil,Bool.and_true,Bool.and_eq_true] at hok
        exact Option.isSome_iff_exists.1 hok.2
       exact (QhL h.rel.dpi (v:=.dr k) (by simp [V.dpart,hbx]) hra).1
      | agg cs =>
       obtain ⟨arr',rfl,hl'⟩:=hra.aggL
       exact ⟨arr',rfl,QcI h.rel.dpi hform hl'⟩
      | _=>simp at hform
     have hcalls:=hall w ua _ hdok hdeep (h.rel.dpi.blk_nodup (EZ.1 hn)) hkk
     have hvals':(args.map a.eval++arr)=#[ua,.int .i64 kk]:=by rw [← hvals]
     unfold Oper.wp
     rw [hexec hb,Oper.upon_enter,hvals']
     refine hcalls.mono fun e w'=>?_
     rintro ⟨rfl,q2,q3,q4⟩
     obtain ⟨M',m1,m2⟩:=Qvv h.rel hra hok hst' q3 q4
     exact ⟨m,Nat.le_refl _,_,_,(RelA.mk m2 h.size h.defers).put (YQ hd) (.mkInt q2) rfl,k1⟩
   | true =>
   rw [hgo,cond_true] at hs1
   have hs2:=hs1
   clear hs1
   have hgo:=Nat.eq_of_beq_eq_true hgo
   subst hgo
   obtain ⟨v,k1,hA⟩:=H.con m _ _ _ r hs2
   unfold QAM at k1
   split at k1
   case h_2=>cases k1
   rename_i t xs
   obtain ⟨hb,hall⟩:=hA.2.1 (Nat.le_add_left _ _) hm1 t xs rfl
   rw [Nat.add_sub_cancel] at hb hall
   have hcalls:=hall M w _ (w0.ok.mono h.rel.F0) h.rel.F hlen hrel
   rw [hvals] at hcalls
   unfold Oper.wp
   rw [hexec hb,Oper.upon_enter]
   refine hcalls.mono fun e w'=>?_
   rintro ⟨u,F',og,rfl,q1,q2,q3,q4,q5,q6⟩
   have hext:=h.rel.ext (M':=⟨F',M.μ,M.τ,M.N,M.D⟩) (w':=w') ⟨q1,fun _ _ _ _ h=>h,Nat.le_refl _,fun _ _ _ h=>h,.refl _⟩ q3.size (fun k hk=>q3.block k hk) q2 rfl rfl rfl rfl (h.rel.below.trans (q3.toBase h.rel.hb))
   have hmint:=hext.mint (.refl _) none og (fun k hk=>by cases hk) hext.F (fun d s b n ad hm hb=>hext.Fbox d s b n ad hm hb) (fun _ _ _ _ _=>rfl) (fun k r' hk _=>by
     obtain ⟨_,_,q⟩:=hext.tok k _ hk
     obtain ⟨_,_,_,_,_,_,_,q'⟩:=q r' rfl
     exact ⟨rfl,q'⟩) (fun reg hreg=>by
     obtain ⟨p1,p2,p3,p4⟩:=q6 reg hreg
     refine ⟨.inl (Nat.le_trans h.rel.hb p1),p2,p3,p4,fun k r' hk _ e=>?_,fun d s b n hm e=>?_⟩
     ·obtain ⟨_,_,q⟩:=h.rel.tok k _ hk
      obtain ⟨_,_,_,cur,e',hh,_⟩:=q r' rfl
      have:=(Array.getElem?_eq_some_iff.1 hh).1
      omega
     ·have:=h.rel.box_lt hm
      omega) (Nat.le_refl _) hext.below (fun _ _ h=>.inl h) (fun _ _ _ _ _ _ h=>h) (fun c hc=>⟨rfl,fun a ha=>hext.dpi.F hc ha,fun reg hreg e=>by
     have:=(q6 reg hreg).1
     have:=h.rel.dpi.lt hc
     omega⟩)
   refine ⟨m,Nat.le_refl _,_,_,(RelA.mk hmint h.size h.defers).put (v:=.own st.nt t xs) (YQ hd) ?_ rfl,k1⟩
   refine .own _ _ _ _ q4 ?_ ?_
   ·show st.nt<M.N+1
    rw [h.rel.N];exact Nat.lt_succ_self _
   ·intro reg hreg
    simp only [Me.mint] at hreg
    rw [if_pos h.rel.N.symm] at hreg
    cases hreg
    exact q5
  | true =>
  rw [hgg] at hs
  have hs2:=hs
  clear hs
  have hgg:=Nat.eq_of_beq_eq_true hgg
  subst hgg
  rw [hI] at hg
  obtain ⟨hb,hcalls⟩:=HI dp (here::path) g (fun m v st=>Qqu v st fun v st=>K m (st.put dp o.dst v)) (hsub g hg) m _ st r M _ w _ hs2 h.rel hlen hrel hle
  rw [hvals] at hcalls
  unfold Oper.wp
  rw [hexec hb,Oper.upon_enter]
  refine hcalls.mono fun e w'=>?_
  rintro ⟨u,v,m',st',M',hm',rfl,k1,k2,k3,k4⟩
  obtain ⟨v2,st2,M2,n1,n2,n3,n4⟩:=Qwp k2 k1 k3 k4
  exact ⟨m',hm',_,_,(RelA.mk n2 h.size h.defers).put (YQ hd) n3 n4,n1⟩
 ·obtain ⟨hlt,hs⟩:=Qn hs
  have hlt:g<Q2:=US hlt
  obtain ⟨v,k1,hb,hvl,hall⟩:=Qwz (H.con m) hs hlt
  have hcalls:=hall base _ dp M w _ (w0.ok.mono h.rel.F0) h.rel.F h.rel.dpi hlen hrel hle
  rw [hvals] at hcalls
  unfold Oper.wp
  rw [hexec hb,Oper.upon_enter]
  refine hcalls.mono fun e w'=>?_
  rintro ⟨u,F',rfl,q1,q2,q3,q4⟩
  have hext:=h.rel.ext (M':=⟨F',M.μ,M.τ,M.N,M.D⟩) (w':=w') ⟨q1,fun _ _ _ _ h=>h,Nat.le_refl _,fun _ _ _ h=>h,.refl _⟩ q3.size (fun k hk=>q3.block k hk) q2 rfl rfl rfl rfl (h.rel.below.trans (q3.toBase h.rel.hb))
  exact ⟨m,Nat.le_refl _,_,_,(RelA.mk hext h.size h.defers).put (YQ hd) q4 (hvl dp),k1⟩
theorem Qk1 {dp nn:Nat} {ops:Array Oper} {j t:Nat} {bv:Bool} {st:St} {M:Me} {a:Act} {w:World} (h:RelA P base w0 dp nn st θ M a w) (hdst:Qqt ops.toList j=some t) (hbv:st.tm dp t=.d .bool bv) :
  yielded ops a.tmps j=some bv∧RelA P base w0 dp nn (st.set dp t (.d .bool bv)) θ M a w:=by
 have htm:=h.rel.tm dp t (Nat.le_refl _)
 rw [hbv] at htm
 have htv:=htm.bool_inv
 simp only [thA,if_true] at htv
 have hy:yielded ops a.tmps j=some bv:=by
  unfold Qqt at hdst
  have hdst':(ops[j]?).bind (·.dst)=some t:=by simpa using hdst
  unfold yielded
  rw [hdst']
  have:a.tmps[t]? = some (.bool bv):=by
   rw [Array.getD_eq_getD_getElem?] at htv
   cases hq:a.tmps[t]? with
   | none=>rw [hq] at htv;simp [undef] at htv
   | some q=>rw [hq] at htv;simp at htv;rw [htv]
  simp [this]
 have htlt:t<nn:=by
  rw [← h.size]
  rcases Nat.lt_or_ge t a.tmps.size with h1 | h1
  ·exact h1
  ·rw [Array.getD_eq_getD_getElem?,Array.getElem?_eq_none h1] at htv;simp [undef] at htv
 have hset:RelA P base w0 dp nn (st.set dp t (.d .bool bv)) θ M a w:=by
  have:=h.set (v:=.d .bool bv) (u:=.bool bv) htlt (.mkBool bv) rfl
  have e:a.put (some t) (.bool bv)=a:=by
   unfold Act.put
   simp only
   congr 1
   apply Array.ext'
   rw [Array.toList_setIfInBounds]
   apply List.ext_getElem?
   intro k
   rw [List.getElem?_set]
   split
   ·rename_i hk
    subst hk
    have hlt:t<a.tmps.size:=by rw [h.size];exact htlt
    rw [if_pos (by simpa using hlt)]
    rw [Array.getD_eq_getD_getElem?,Array.getElem?_eq_getElem hlt] at htv
    simp only [Option.getD_some] at htv
    rw [List.getElem?_eq_getElem (by simpa using hlt)]
    simp [htv]
   ·rfl
  rwa [e] at this
 exact ⟨hy,hset⟩
theorem QsB {dp nn:Nat} {ops:Array Oper} {j t:Nat} {st:St} {M:Me} {a:Act} {w:World} (h:RelA P base w0 dp nn st θ M a w) (hdst:Qqt ops.toList j=some t) (hun:st.tm dp t=.un):yielded ops a.tmps j=none:=by
 have htm:=h.rel.tm dp t (Nat.le_refl _)
 rw [hun] at htm
 simp only [thA,if_true] at htm
 generalize hv:a.tmps.getD t undef=v at htm
 cases htm
 unfold Qqt at hdst
 have hdst':(ops[j]?).bind (·.dst)=some t:=by simpa using hdst
 unfold yielded
 rw [hdst']
 rw [Array.getD_eq_getD_getElem?] at hv
 cases hq:a.tmps[t]? with
 | none=>simp [hq]
 | some q=>rw [hq] at hv;simp only [Option.getD_some] at hv;subst hv;simp [hq,undef]
theorem Qux (H:CtxOk P w0.gl CF root) (HI:Quw P base w0 CF root) {dp nn:Nat} {path:List Nat} {ops:Array Oper} {Q:Exit→Act→World→Prop} {K:Nat→Z9 R} {r:R} {N:Nat} (hQ:∀ a w,Fam P base w0 dp nn θ N K r a w→Q .normal a w) (b:Nat) :
  ∀ (rest:List Oper) (i:Nat),ops.toList.drop i=rest→(∀ m x,x∈Qr2 (CF m) dp nn path ops.toList (b+i) rest (K m)→x∈root m) →
   ∀ (m:Nat) (st:St) (M:Me) (a:Act) (w:World),m≤N→QdQ (CF m) dp nn path ops.toList (b+i) rest (K m) st=some r→RelA P base w0 dp nn st θ M a w→wpOps P ops Q (List.range' i rest.length) a w
 | [],i,_,_,m,st,M,a,w,hN,hs,h=>by
  simp only [QdQ] at hs
  exact hQ a w ⟨m,hN,st,M,h,hs⟩
 | o::rest,i,hdrop,hsub,m,st,M,a,w,hN,hs,h=>by
  have hoi:ops[i]? = some o:=by
   have:(ops.toList.drop i)[0]? = some o:=by rw [hdrop];rfl
   rw [List.getElem?_drop] at this
   simpa using this
  have hdrop':ops.toList.drop (i+1)=rest:=by
   rw [← List.drop_drop,hdrop];rfl
  have hsub1:∀ g,Vq (CF 0).I ((b+i)::path)=some g→∀ m x,x∈(CF m).lab dp ((b+i)::path) g (fun v st=>Qqu v st fun v st=>QdQ (CF m) dp nn path ops.toList (b+i+1) rest (K m) (st.put dp o.dst v))→x∈root m:=by
   intro g hg m x hx
   refine hsub m x ?_
   simp only [Qr2]
   rw [H.I_eq m 0,hg]
   exact List.mem_append.2 (.inl hx)
  have hsub2:∀ m x,x∈Qr2 (CF m) dp nn path ops.toList (b+(i+1)) rest (K m)→x∈root m:=by
   intro m x hx
   refine hsub m x ?_
   simp only [Qr2]
   exact List.mem_append.2 (.inr hx)
  have IH:∀ a w,Fam P base w0 dp nn θ m (fun m=>QdQ (CF m) dp nn path ops.toList (b+i+1) rest (K m)) r a w→wpOps P ops Q (List.range' (i+1) rest.length) a w:=by
   rintro a w ⟨m',hm',st,M,h,hs⟩
   exact Qux H HI hQ b rest (i+1) hdrop' hsub2 m' st M a w (Nat.le_trans hm' hN) hs h
  have go:∀ (st:St) (M:Me),RelA P base w0 dp nn st θ M a w→QfD nn o=true→Jw (CF m) dp path (b+i) o st (QdQ (CF m) dp nn path ops.toList (b+i+1) rest (K m))=some r→o.wp P a w (wpOps P ops Q (List.range' (i+1) rest.length)) Q:=by
   intro st M h hd hs
   refine Oper.wp_mono IH ?_
   cases hc:Ef o with
   | true=>exact QsA (K:=fun m=>QdQ (CF m) dp nn path ops.toList (b+i+1) rest (K m)) H HI hsub1 h hd hc hs Q
   | false=>exact Oper.wp_mono (fun a w hg=>⟨m,Nat.le_refl _,hg⟩) (QmE (CF m) (H.P_eq m) h hd hc hs Q)
  simp only [QdQ] at hs
  obtain ⟨hd,hs2⟩:=Qn hs
  clear hs
  rw [List.length_cons,List.range'_succ]
  simp only [wpOps,hoi]
  split at hs2
  ·rename_i hg
   have hw:Region.wanted o (yielded ops a.tmps)=true:=by simp [Region.wanted,hg]
   rw [if_pos hw]
   exact .inl (go st M h hd hs2)
  ·rename_i j want hg
   split at hs2
   case h_1=>cases hs2
   rename_i t hdst
   have hskip:∀ st:St,RelA P base w0 dp nn st θ M a w→QdQ (CF m) dp nn path ops.toList (b+i+1) rest (K m) (st.put dp o.dst .un)=some r→wpOps P ops Q (List.range' (i+1) rest.length) (a.put o.dst undef) w:=by
    intro st h hs
    exact IH _ _ ⟨m,Nat.le_refl _,_,M,h.put (YQ hd) .un rfl,hs⟩
   split at hs2
   case h_3=>cases hs2
   case h_2 =>
    rename_i hun
    have hwant:Region.wanted o (yielded ops a.tmps)=false:=by simp [Region.wanted,hg,QsB h hdst hun]
    rw [if_neg (by rw [hwant];decide)]
    exact hskip _ h hs2
   rename_i bv hbv
   obtain ⟨hy,hset⟩:=Qk1 h hdst hbv
   have hwant:Region.wanted o (yielded ops a.tmps)=(some bv == some want):=by simp [Region.wanted,hg,hy]
   cases bv with
   | true =>
    cases want with
    | true =>
     rw [if_pos (by rw [hwant];rfl)]
     exact .inl (go _ M hset hd hs2)
    | false =>
     rw [if_neg (by rw [hwant];decide)]
     exact hskip _ hset hs2
   | false =>
    cases want with
    | true =>
     rw [if_neg (by rw [hwant];decide)]
     exact hskip _ hset hs2
    | false =>
     rw [if_pos (by rw [hwant];rfl)]
     exact .inl (go _ M hset hd hs2)
theorem YR {i:Nat}:∀ {l:List Nat},Wi i l=true↔i∈l
 | []=>by simp [Wi]
 | j::l=>by
  simp only [Wi,Bool.or_eq_true,List.mem_cons,YR (l:=l)]
  exact or_congr ⟨Nat.eq_of_beq_eq_true,fun h=>by rw [h];exact Nat.beq_refl _⟩ Iff.rfl
theorem QhN {i:Nat} {l:List Nat} (h:Wi i l=false):i∉l:=fun hm=>by rw [YR.2 hm] at h;cases h
def unl (ops:Array Oper) (listed:Array Bool):Nat:=(Qmn ops listed).length
theorem QAc {ops:Array Oper} {listed:Array Bool} {i:Nat}:i∈Qmn ops listed↔i<ops.size∧listed.getD i true=false:=by
 simp [Qmn]
theorem Qap {ops:Array Oper} {listed:Array Bool} {i:Nat}:i∈Region.ready .any ops listed↔i<ops.size∧listed.getD i true=false∧∀ p∈JT ops i,listed.getD p false=true:=by
 unfold Region.ready
 simp only [List.mem_filter,List.mem_range,Bool.and_eq_true,Bool.not_eq_true']
 constructor
 ·rintro ⟨h1,h2,h3⟩
  refine ⟨h1,h2,?_⟩
  intro p hp
  unfold JT at hp
  have ho:ops[i]? = some ops[i]:=Array.getElem?_eq_getElem h1
  rw [ho] at hp h3
  simp only [Option.map_some,Option.getD_some] at h3
  unfold QkX at hp
  obtain ⟨e,he,rfl⟩:=List.mem_map.1 hp
  obtain ⟨he1,he2⟩:=List.mem_filter.1 he
  rw [Array.all_eq_true_iff_forall_mem] at h3
  have:=h3 e (by simpa using he1)
  rw [he2] at this
  simpa using this
 ·rintro ⟨h1,h2,h3⟩
  refine ⟨h1,h2,?_⟩
  have ho:ops[i]? = some ops[i]:=Array.getElem?_eq_getElem h1
  rw [ho]
  simp only [Option.map_some,Option.getD_some]
  rw [Array.all_eq_true_iff_forall_mem]
  intro e he
  cases hb:Region.binds .any e with
  | false=>rfl
  | true =>
   have:=h3 e.on (by
    unfold JT;rw [ho];unfold QkX
    exact List.mem_map.2 ⟨e,List.mem_filter.2 ⟨by simpa using he,hb⟩,rfl⟩)
   simpa using this
theorem QnQ {l:Array Bool} {i j:Nat} {d:Bool} (hi:i<l.size):(l.setIfInBounds i true).getD j d=if j=i then true else l.getD j d:=by
 rw [Array.getD_eq_getD_getElem?,Array.getD_eq_getD_getElem?,Array.getElem?_setIfInBounds]
 by_cases h:i=j
 ·subst h;simp [hi]
 ·rw [if_neg h,if_neg (fun e=>h e.symm)]
theorem QvF {ops:Array Oper} {l:Array Bool} {i:Nat} (hi:i<ops.size) (hl:l.size=ops.size) (hn:l.getD i true=false):unl ops (l.setIfInBounds i true)+1≤unl ops l:=by
 unfold unl Qmn
 have key:∀ (xs:List Nat),xs.Nodup→i∈xs→(xs.filter fun j=>!(l.setIfInBounds i true).getD j true).length+1≤(xs.filter fun j=>!l.getD j true).length:=by
  have le:∀ (xs:List Nat),(xs.filter fun j=>!(l.setIfInBounds i true).getD j true).length≤(xs.filter fun j=>!l.getD j true).length:=by
   intro xs
   induction xs with
   | nil=>simp
   | cons x xs ih =>
    simp only [List.filter_cons]
    rw [QnQ (by omega)]
    by_cases hx:x=i
    ·subst hx;rw [if_pos rfl];simp only [hn,Bool.not_true,Bool.not_false,Bool.false_eq_true,if_false,if_true,List.length_cons];omega
    ·rw [if_neg hx];cases l.getD x true<;>simp only [Bool.not_true,Bool.not_false,Bool.false_eq_true,if_false,if_true,List.length_cons]<;>omega
  intro xs hnd hmem
  induction xs with
  | nil=>cases hmem
  | cons x xs ih =>
   have hle:=le xs
   rw [List.nodup_cons] at hnd
   simp only [List.filter_cons]
   rw [QnQ (by omega)]
   by_cases hx:x=i
   ·subst hx;rw [if_pos rfl];simp only [hn,Bool.not_true,Bool.not_false,Bool.false_eq_true,if_false,if_true,List.length_cons];omega
   ·rw [if_neg hx]
    have:=ih hnd.2 (by rcases List.mem_cons.1 hmem with h | h;exact absurd h.symm hx;exact h)
    cases l.getD x true<;>simp only [Bool.not_true,Bool.not_false,Bool.false_eq_true,if_false,if_true,List.length_cons]<;>omega
 exact key _ List.nodup_range (List.mem_range.2 hi)
def QAd (P:Program) (base:Base) (w0:Orig) (dp nn:Nat) (θ:Nat→Nat→Value) (ops:Array Oper) (Q:Exit→Act→World→Prop) (slots:List Nat) (q:Bool) (dA:Nat→Bool) (i:Nat) (e:Eff) (s:St):Prop:=(e.boxed? = true→Qwb ops i=true∧∀ t,GF ops i=some t→s.bx dp t=.none)∧(e.grown? = true→ZC ops i=true)∧(e.deep? = true→dA i=true)∧∀ st',(∀ t∈Qcn ops i,st'.tm dp t=s.tm dp t)→(∀ x y,(!(Nat.beq x dp&&Wi y slots))=true→st'.bx x y=s.bx x y)→((q=true→st'.rw=s.rw)∧(Qeh ops i=true→st'.dr=s.dr))→(e.boxed? = true→∀ t,GF ops i=some t→st'.bx dp t=.none)→(e.grown? = true→st'.nt=s.nt∧st'.lv=s.lv)→(e.deep? = true→st'.nd=s.nd)→∀ M a w,RelA P base w0 dp nn st' θ M a w→wpOp P ops Q i (fun a' w'=>∃ M',RelA P base w0 dp nn (e.app dp (GF ops i) st') θ M' a' w') a w∧((ops[i]?.map Qei).getD false=true→∃ oi u,ops[i]? = some oi∧Yields P ops oi u a∧RelA P base w0 dp nn (e.app dp (GF ops i) st') θ M (a.put oi.dst u) w)
theorem QwA:∀ (v:V) (st st':St),st'.dr=st.dr→st'.nd=st.nd→(JU v st').1=(JU v st).1∧(JU v st').2={ st' with dr:=(JU v st).2.dr,nd:=(JU v st).2.nd }:=by
 intro v
 apply V.rec (motive_1:=fun v=>∀ (st st':St),st'.dr=st.dr→st'.nd=st.nd→(JU v st').1=(JU v st).1∧(JU v st').2={ st' with dr:=(JU v st).2.dr,nd:=(JU v st).2.nd })
  (motive_2:=fun vs=>∀ (st st':St),st'.dr=st.dr→st'.nd=st.nd→(JU.mintL vs st').1=(JU.mintL vs st).1∧(JU.mintL vs st').2={ st' with dr:=(JU.mintL vs st).2.dr,nd:=(JU.mintL vs st).2.nd }) (t:=v)
 case d =>
  intro t x st st' h1 h2
  cases t with
  | list t=>simp only [JU,St.mintD];exact ⟨by rw [h2],by rw [h1,h2]⟩
  | _=>simp only [JU];exact ⟨trivial,by rw [← h1,← h2]⟩
 case agg =>
  intro cs ih st st' h1 h2
  obtain ⟨k1,k2⟩:=ih st st' h1 h2
  simp only [JU]
  cases cs.all V.isD with
  | true=>simp only [cond_true];exact ⟨by rw [k1],k2⟩
  | false=>simp only [cond_false];exact ⟨trivial,by rw [← h1,← h2]⟩
 case tup =>
  intro cs ih st st' h1 h2
  obtain ⟨k1,k2⟩:=ih st st' h1 h2
  simp only [JU]
  exact ⟨by rw [k1],k2⟩
 case nil=>intro st st' h1 h2;simp only [JU.mintL];exact ⟨trivial,by rw [← h1,← h2]⟩
 case cons =>
  intro c cs i1 i2 st st' h1 h2
  obtain ⟨k1,k2⟩:=i1 st st' h1 h2
  obtain ⟨k3,k4⟩:=i2 (JU c st).2 (JU c st').2 (by rw [k2]) (by rw [k2])
  simp only [JU.mintL]
  refine ⟨by rw [k1,k3],?_⟩
  rw [k4,k2]
 all_goals (intros;rename_i st st' h1 h2;simp only [JU];exact ⟨trivial,by rw [← h1,← h2]⟩)
theorem QAe {st:St} {d t:Nat} {v:V} (h:st.tm d t=v):st.set d t v=st:=by
 have:upd st.tm d t v=st.tm:=by
  funext x y
  unfold upd
  cases h1:Nat.beq y t&&Nat.beq x d with
  | true =>
   simp only [Bool.and_eq_true] at h1
   rw [Nat.eq_of_beq_eq_true h1.1,Nat.eq_of_beq_eq_true h1.2]
   simp [h]
  | false=>rfl
 unfold St.set
 rw [this]
theorem QAf {dp nn:Nat} {o:Oper} {st:St} {M:Me} {a:Act} {w:World} (h:RelA P base w0 dp nn st θ M a w) (hd:QfD nn o=true) {f:Operand} {args:Array Operand} {ats:Array TypeId} (hop:o.op=.call ⟨.value f,args,ats⟩) {g:Nat} {caps:List V} (hf:st.ev dp f=.fn g caps)
  {v:V} (hA:Qz9 P w0.gl st.dr g (args.toList.map (st.ev dp)++caps) v) (Q:Exit→Act→World→Prop) :
  o.wp P a w (fun a' w'=>∃ M',RelA P base w0 dp nn (st.put dp o.dst v) θ M' a' w') Q:=by
 have hfv:=h.ev f
 rw [hf] at hfv
 obtain ⟨hfr,hfl⟩:=hfv
 obtain ⟨arr,hfval,hcl,hca⟩:∃ arr,a.eval f=.func (.func g) #[] arr∧caps.length=arr.size∧∀ (i:Nat) (c:V) (u:Value),caps[i]? = some c→arr[i]? = some u→RelV M c u:=by
  generalize a.eval f=vf at hfr
  cases hfr with
  | fn g cs arr hl ha=>exact ⟨arr,rfl,hl,ha⟩
 obtain ⟨al,aa,ale⟩:=Qsz h args
 have hlen:(args.toList.map (st.ev dp)++caps).length=((args.map a.eval).toList++arr.toList).length:=by simp [hcl]
 have hrel:∀ (i:Nat) c u,(args.toList.map (st.ev dp)++caps)[i]? = some c→((args.map a.eval).toList++arr.toList)[i]? = some u→RelV M c u:=by
  intro i c u hc hu
  by_cases hi:i<(args.toList.map (st.ev dp)).length
  ·rw [List.getElem?_append_left hi] at hc
   rw [List.getElem?_append_left (by rw [← al];exact hi)] at hu
   exact aa i c u hc hu
  ·rw [List.getElem?_append_right (by omega)] at hc
   rw [List.getElem?_append_right (by omega),← al] at hu
   exact hca _ c u hc (by simpa using hu)
 have hvals:((args.map a.eval).toList++arr.toList).toArray=args.map a.eval++arr:=by simp
 obtain ⟨hb,hvl,hall⟩:=hA
 have hexec:(execOp a.eval o).run P w=.ok (.enter g (args.map a.eval++arr)) w:=by
  simp [execOp,hop,resolve,hfval,Deferred.ofValue,invoke,QdU hb]
 have hcalls:=hall base _ dp M w _ (w0.ok.mono h.rel.F0) h.rel.F h.rel.dpi hlen hrel (QmG ale hfl)
 rw [hvals] at hcalls
 unfold Oper.wp
 rw [hexec,Oper.upon_enter]
 refine hcalls.mono fun e w'=>?_
 rintro ⟨u,F',rfl,q1,q2,q3,q4⟩
 have hext:=h.rel.ext (M':=⟨F',M.μ,M.τ,M.N,M.D⟩) (w':=w') ⟨q1,fun _ _ _ _ h=>h,Nat.le_refl _,fun _ _ _ h=>h,.refl _⟩ q3.size (fun k hk=>q3.block k hk) q2 rfl rfl rfl rfl (h.rel.below.trans (q3.toBase h.rel.hb))
 exact ⟨_,(RelA.mk hext h.size h.defers).put (YQ hd) q4 (hvl dp)⟩
open Classical in
theorem QBw (H:CtxOk P w0.gl CF root) {dp nn:Nat} {path:List Nat} {ops:Array Oper} {id:Nat} {slots:List Nat} {q:Bool} {K:Z9 R} {r:R} {Q:Exit→Act→World→Prop} (m:Nat) {i:Nat} {o:Oper} (hi:ops[i]? = some o) (hpl:QfE P (CF m).I path id ops i=true) {st:St} (hbxk:QBq dp slots q o st=true) (hqg:QhE o=true→q=false)
  (hs:QdQ (CF m) dp nn path ops.toList (1000*id+i) [o] K st=some r):∃ e:Eff,K (e.app dp o.dst st)=some r∧QAd P base w0 dp nn θ ops Q slots q (Vl (CF m).I path id ops) i e st:=by
 have hda:GF ops i=o.dst:=by unfold GF;rw [hi];rfl
 have hba:Qwb ops i=Qug o:=by unfold Qwb;simp only [hi]
 have hga:ZC ops i=QhE o:=by unfold ZC;simp only [hi]
 have hlk:Qcn ops i=Uf o++(match o.guard with | some (j,_)=>(Qqt ops.toList j).toList | none=>[]):=by unfold Qcn;simp only [hi];rfl
 have hkp:∃ k:Nat→Nat→Bool,(∀ t∈Uf o,(st.tm dp t).kept k q=true)∧∀ st':St,(∀ x y,(!(Nat.beq x dp&&Wi y slots))=true→st'.bx x y=st.bx x y)→∀ x y,k x y=true→st'.bx x y=st.bx x y:=by
  refine ⟨fun x y=>!(Nat.beq x dp&&Wi y slots),?_,fun st' h=>h⟩
  unfold QBq at hbxk
  simp only [List.all_eq_true] at hbxk
  exact hbxk
 obtain ⟨kk,hkp,hkb⟩:=hkp
 simp only [QdQ] at hs
 obtain ⟨hd,hs2⟩:=Qn hs
 clear hs
 have skip:∀ (j:Nat) (want:Bool) (t:Nat),o.guard=some (j,want)→Qqt ops.toList j=some t→(st.tm dp t=.un∨∃ b:Bool,st.tm dp t=.d .bool b∧b≠want)→K (st.put dp o.dst .un)=some r →
   ∃ e:Eff,K (e.app dp o.dst st)=some r∧QAd P base w0 dp nn θ ops Q slots q (Vl (CF m).I path id ops) i e st:=by
  intro j want t hg hdst hv hk
  refine ⟨.val .un,hk,(fun h=>by cases h),(fun h=>by cases h),(fun h=>by cases h),fun st' hag hbx _ _ _ _ M a w h=>?_⟩
  have ht:st'.tm dp t=st.tm dp t:=hag t (by rw [hlk,hg];simp [hdst])
  have hw:Region.wanted o (yielded ops a.tmps)=false:=by
   rcases hv with hv | ⟨b,hv,hb⟩
   ·simp [Region.wanted,hg,QsB h hdst (ht.trans hv)]
   ·obtain ⟨hy,_⟩:=Qk1 h hdst (ht.trans hv)
    simp only [Region.wanted,hg,hy]
    cases b<;>cases want<;>first | rfl | exact absurd rfl hb
  refine ⟨?_,fun _=>⟨o,undef,hi,.inr ⟨hw,rfl⟩,by rw [hda];exact h.put (YQ hd) .un rfl⟩⟩
  unfold wpOp
  rw [hi]
  simp only [hw,Bool.false_eq_true,if_false]
  rw [hda]
  exact ⟨M,h.put (YQ hd) .un rfl⟩
 have go:(∀ (st':St) M a w,(∀ t∈Qcn ops i,st'.tm dp t=st.tm dp t)→RelA P base w0 dp nn st' θ M a w→Region.wanted o (yielded ops a.tmps)=true)→Jw (CF m) dp path (1000*id+i) o st K=some r →
   ∃ e:Eff,K (e.app dp o.dst st)=some r∧QAd P base w0 dp nn θ ops Q slots q (Vl (CF m).I path id ops) i e st:=by
  intro hw hs
  have hrd:∀ {st':St},(∀ t∈Qcn ops i,st'.tm dp t=st.tm dp t)→∀ t∈Uf o,st'.tm dp t=st.tm dp t:=fun hag t ht=>hag t (by rw [hlk];exact List.mem_append_left _ ht)
  have byStep:Ef o=false→∀ (e:Eff) (st':St),Jw (CF m) dp path (1000*id+i) o st' (fun s=>if s=e.app dp o.dst st' then some r else none)=some r→∀ M a w,(∀ t∈Qcn ops i,st'.tm dp t=st.tm dp t)→RelA P base w0 dp nn st' θ M a w →
    wpOp P ops Q i (fun a' w'=>∃ M',RelA P base w0 dp nn (e.app dp (GF ops i) st') θ M' a' w') a w:=by
   intro hc e st' hs' M a w hag h
   unfold wpOp
   rw [hi]
   simp only [hw st' M a w hag h,if_true]
   refine .inl (Oper.wp_mono ?_ (QmE (CF m) (H.P_eq m) h hd hc hs' Q))
   rintro a' w' ⟨st'',M',h',hk'⟩
   have he:st''=e.app dp o.dst st':=by
    by_cases e2:st''=e.app dp o.dst st'
    ·exact e2
    ·have h1:(if st''=e.app dp o.dst st' then some r else none)=some r:=hk'
     rw [if_neg e2] at h1;cases h1
   rw [he] at h'
   rw [hda]
   exact ⟨M',h'⟩
  cases hl:Vh P o with
  | true =>
   have hl':Vh (CF m).P o=true:=by rw [H.P_eq m];exact hl
   have hnc:Ef o=false:=by
    unfold Ef
    split
    ·rename_i f as ats hop
     simp [Vh,hop] at hl
    ·rfl
   obtain ⟨v,hk,hn⟩:=Qy4 (CF m) (CF m) rfl (path':=path) (here':=1000*id+i) hl' hkp hs
   have hse:QtH o=true→Qeh ops i=true:=fun hd=>by unfold Qeh;simp only [hi,hd,Bool.true_or]
   refine ⟨.val v,hk,(fun h=>by cases h),(fun h=>by cases h),(fun h=>by cases h),fun st' hag hbx hq0 _ _ _ M a w h=>have hqq:(q=true→st'.rw=st.rw)∧(QtH o=true→st'.dr=st.dr):=⟨hq0.1,fun hd=>hq0.2 (hse hd)⟩;⟨byStep hnc (.val v) st' (hn st' (hrd hag) (hkb st' hbx) hqq _ r (if_pos rfl)) M a w hag h,fun hp=>?_⟩⟩
   have hp':Qei o=true:=by rw [hi] at hp;exact hp
   obtain ⟨v',u,q1,q2,q3,q4⟩:=QxE (CF m) (H.P_eq m) h hp' (hn st' (hrd hag) (hkb st' hbx) hqq (fun s=>if s=(Eff.val v).app dp o.dst st' then some r else none) r (if_pos rfl))
   have he:st'.put dp o.dst v'=(Eff.val v).app dp o.dst st':=by
    by_cases e2:st'.put dp o.dst v'=(Eff.val v).app dp o.dst st'
    ·exact e2
    ·have h1:(if st'.put dp o.dst v'=(Eff.val v).app dp o.dst st' then some r else none)=some r:=q1
     rw [if_neg e2] at h1;cases h1
   exact ⟨o,u,hi,.inl ⟨hw st' M a w hag h,q4⟩,by rw [hda,← he];exact h.put (YQ hd) q2 q3⟩
  | false =>
   cases hhv:QdR o with
   | true =>
    have hl':Vh (CF m).P o=false:=by rw [H.P_eq m];exact hl
    have hnd:Vl (CF m).I path id ops i=false:=by
     unfold Vl
     rw [hi]
     simp only
     split
     ·rename_i g as ats hop
      simp [QdR,hop] at hhv
     ·rfl
    have hnI:Vq (CF m).I ((1000*id+i)::path)=none:=by
     unfold QfE at hpl
     rw [hnd,hi] at hpl
     simp only [hl,hhv,Bool.false_or,Bool.true_or,Bool.true_and,Bool.or_false] at hpl
     simpa using hpl
    have hnc:Ef o=false:=by
     unfold Ef
     split
     ·rename_i f as ats hop
      simp [QdR,hop] at hhv
     ·rfl
    obtain ⟨e,hk,hb1,hg1,hde,hn⟩:=Qy5 (CF m) (CF m) rfl (path':=path) (here':=1000*id+i) hhv hkp hqg hnI hnI hs
    refine ⟨e,hk,fun hb=>?_,fun hg=>by rw [hga];exact hg1 hg,(fun hd=>by rw [hde] at hd;cases hd),fun st' hag hbx _ hb2 hg2 _ M a w h=>⟨byStep hnc e st' (hn st' (hrd hag) (fun hb t ht=>hb2 hb t (by rw [hda];exact ht)) hg2 _ r (if_pos rfl)) M a w hag h,fun hp=>?_⟩⟩
    case refine_2 =>
     exfalso
     rw [hi] at hp
     have hp':Qei o=true:=hp
     revert hp' hhv
     unfold Qei QdR
     cases o.op<;>simp
    obtain ⟨b1,b2⟩:=hb1 hb
    exact ⟨by rw [hba];exact b1,fun t ht=>b2 t (by rw [hda] at ht;exact ht)⟩
   | false =>
    cases hdA:Vl (CF m).I path id ops i with
    | true =>
     have hdB:=hdA
     unfold Vl at hdB
     rw [hi] at hdB
     simp only at hdB
     split at hdB
     case h_2=>cases hdB
     rename_i g args argTypes hop
     rw [Bool.and_eq_true] at hdB
     obtain ⟨hlt0,hdB⟩:=hdB
     split at hdB
     case h_2=>cases hdB
     rename_i g' hg
     obtain rfl:=Nat.eq_of_beq_eq_true hdB
     have hlt:g<Q2:=US hlt0
     obtain ⟨hm1,hm2⟩:=QgG hlt
     have hev:∀ s:St,s.ev dp (.func g)=.fn g []:=fun _=>rfl
     have b1:Nat.beq g (g+ZH)=false:=by
      cases hb:Nat.beq g (g+ZH) with
      | false=>rfl
      | true=>have:=Nat.eq_of_beq_eq_true hb;unfold ZH at this;omega
     have b2:Nat.beq (g+Q2) (g+ZH)=false:=by
      cases hb:Nat.beq (g+Q2) (g+ZH) with
      | false=>rfl
      | true=>have:=Nat.eq_of_beq_eq_true hb;unfold ZH Q2 at this;omega
     simp only [Jw,hop,hev,hg,b1,b2,hlt0,Nat.beq_refl,cond_true,cond_false,List.append_nil] at hs
     obtain ⟨v,k1,hA⟩:=H.con m _ _ _ r hs
     obtain ⟨hb,hall⟩:=hA.2.2.1 (Nat.le_add_left _ _) hm2
     rw [Nat.add_sub_cancel] at hb hall
     have hse:Qeh ops i=true:=by unfold Qeh Ef;simp only [hi,hop,Bool.or_true]
     obtain ⟨_,e0⟩:=QwA v st st rfl rfl
     refine ⟨.deep (JU v st).1 (JU v st).2.dr (JU v st).2.nd,?_,(fun h=>by cases h),(fun h=>by cases h),(fun _=>hdA),fun st' hag hbx hq0 _ _ hnd M a w h=>?_⟩
     ·have k1:K ((JU v st).2.put dp o.dst (JU v st).1)=some r:=k1
      rw [e0] at k1
      exact k1
     ·have hdr:=hq0.2 hse
      have hnd:=hnd rfl
      obtain ⟨m1,m2⟩:=QwA v st st' hdr hnd
      have hrd':=hrd hag
      unfold Uf at hrd'
      simp only [hop] at hrd'
      obtain ⟨_,r2⟩:=ml hrd'
      refine ⟨?_,fun hp=>?_⟩
      ·unfold wpOp
       rw [hi]
       simp only [hw st' M a w hag h,if_true]
       rw [hda]
       refine .inl ?_
       obtain ⟨al,aa,ale⟩:=Qsz h args
       have hvals:((args.map a.eval).toList).toArray=args.map a.eval:=Array.toArray_toList
       have hexec:(execOp a.eval o).run P w=.ok (.enter g (args.map a.eval)) w:=by
        have:a.eval (.func g)=.func (.func g) #[] #[]:=rfl
        simp [execOp,hop,resolve,this,Deferred.ofValue,invoke,QdU hb]
       obtain ⟨l1,l2⟩:=QnJ (st:=st') h.rel.dpi rfl dp _ _ al aa ale
       rw [Qys (st:=st') (st':=st) hdr,QnM r2] at l1 l2
       have hcalls:=hall { M with F:=M.lend w } w _ ((w0.ok.mono h.rel.F0).mono QrQ) (Qpt h.rel.F) l1 l2
       rw [hvals] at hcalls
       unfold Oper.wp
       rw [hexec,Oper.upon_enter]
       refine hcalls.mono fun e w'=>?_
       rintro ⟨u,bs,rfl,q3,q4,q5,q6⟩
       have hext:=h.rel.ext (M':=M) (w':=w') (.refl _ _) q3.size (fun k hk=>q3.block k hk) (fun _ _ h=>.inl h) rfl rfl rfl rfl (h.rel.below.trans (q3.toBase h.rel.hb))
       obtain ⟨D',d1,d2,d3,d4,_⟩:=QqD v st' M u bs hext q4 q5 (fun c hc=>QjA h.rel (q6 c hc))
       rw [m1] at d3 d4
       rw [m2] at d2
       exact ⟨_,(RelA.mk d2 h.size h.defers).put (YQ hd) d3 d4⟩
      ·rw [hi] at hp
       simp [Qei,hop] at hp
    | false =>
     unfold QfE at hpl
     rw [hdA,hi] at hpl
     simp only [hl,hhv,Bool.false_or,Bool.or_false,Bool.and_eq_true] at hpl
     obtain ⟨hc,hnone⟩:=hpl
     unfold Ef at hc
     split at hc
     case h_2=>cases hc
     rename_i f args argTypes hop
     simp only [Jw,hop] at hs
     split at hs
     case h_2=>cases hs
     rename_i g caps hf
     split at hs
     ·rename_i g' hg
      rw [hg] at hnone
      cases hnone
     ·obtain ⟨hlt,hs⟩:=Qn hs
      have hlt:g<Q2:=US hlt
      obtain ⟨v,k1,hA⟩:=Qwz (H.con m) hs hlt
      have hse:Qeh ops i=true:=by unfold Qeh Ef;simp only [hi,hop,Bool.or_true]
      refine ⟨.val v,k1,(fun h=>by cases h),(fun h=>by cases h),(fun h=>by cases h),fun st' hag hbx hq0 _ _ _ M a w h=>?_⟩
      have hqq:(q=true→st'.rw=st.rw)∧st'.dr=st.dr:=⟨hq0.1,hq0.2 hse⟩
      have hrd':=hrd hag
      unfold Uf at hrd'
      simp only [hop] at hrd'
      obtain ⟨r1,r2⟩:=ml hrd'
      refine ⟨?_,fun hp=>?_⟩
      ·unfold wpOp
       rw [hi]
       simp only [hw st' M a w hag h,if_true]
       rw [hda]
       exact .inl (QAf h hd hop (by rw [ZS r1];exact hf) (by rw [QnM r2,hqq.2];exact hA) Q)
      ·rw [hi] at hp
       simp [Qei,hop] at hp
 split at hs2
 ·rename_i hg
  exact go (fun _ _ _ _ _ _=>by simp [Region.wanted,hg]) hs2
 ·rename_i j want hg
  split at hs2
  case h_1=>cases hs2
  rename_i t hdst
  split at hs2
  case h_3=>cases hs2
  case h_2 =>
   rename_i hun
   exact skip j want t hg hdst (.inl hun) hs2
  rename_i bv hbv
  have hmem:t∈Qcn ops i:=by rw [hlk,hg];simp [hdst]
  have hwant:bv=want→∀ (st':St) M a w,(∀ t∈Qcn ops i,st'.tm dp t=st.tm dp t)→RelA P base w0 dp nn st' θ M a w→Region.wanted o (yielded ops a.tmps)=true:=by
   intro e st' M a w hag h
   obtain ⟨hy,_⟩:=Qk1 h hdst ((hag t hmem).trans hbv)
   simp [Region.wanted,hg,hy,e]
  have e:=QAe hbv
  cases bv with
  | true =>
   simp only [cond_true] at hs2
   rw [e] at hs2
   cases want with
   | true=>exact go (hwant rfl) hs2
   | false=>exact skip j false t hg hdst (.inr ⟨true,hbv,by decide⟩) hs2
  | false =>
   simp only [cond_false] at hs2
   rw [e] at hs2
   cases want with
   | true=>exact skip j true t hg hdst (.inr ⟨false,hbv,by decide⟩) hs2
   | false=>exact go (hwant rfl) hs2
theorem QmH {l:Array Bool}:∀ {S:List Nat} {j:Nat} {d:Bool},(∀ i∈S,i<l.size)→(S.foldl (fun l i=>l.setIfInBounds i true) l).getD j d=if j∈S then true else l.getD j d:=by
 intro S
 induction S generalizing l with
 | nil=>intro j d _;simp
 | cons i S ih =>
  intro j d h
  rw [List.foldl_cons,ih (fun k hk=>by rw [Array.size_setIfInBounds];exact h k (by simp [hk])),QnQ (h i (by simp))]
  by_cases h1:j∈S
  ·simp [h1]
  ·by_cases h2:j=i<;>simp [h1,h2]
def Ei (ops:Array Oper) (d:Nat) (st:St) (L:List (Nat × Eff)):St:=L.foldl (fun s p=>p.2.app d (GF ops p.1) s) st
def Eff.v:Eff→V | .val v | .boxed v _ | .grown _ v | .deep v _ _=>v
theorem QsC (st:St) (d:Nat) (o:Option Nat) (v:V) (x y:Nat):(st.put d o v).tm x y=if x=d∧o=some y then v else st.tm x y:=by
 cases o with
 | none=>simp [St.put]
 | some t =>
  simp only [St.put,St.set,upd]
  cases h:Nat.beq y t&&Nat.beq x d with
  | true =>
   simp only [Bool.and_eq_true] at h
   rw [if_pos ⟨Nat.eq_of_beq_eq_true h.2,by rw [Nat.eq_of_beq_eq_true h.1]⟩];rfl
  | false =>
   rw [if_neg];· rfl
   rintro ⟨rfl,e⟩
   cases e
   rw [Nat.beq_refl,Nat.beq_refl] at h
   cases h
theorem QxF (st:St) (d:Nat) (o:Option Nat) (e:Eff) (x y:Nat):(e.app d o st).tm x y=if x=d∧o=some y then e.v else st.tm x y:=by
 cases e with
 | val v=>exact QsC st d o v x y
 | boxed v b =>
  cases o with
  | none=>simp [Eff.app]
  | some t=>exact QsC (st.setB d t b) d (some t) v x y
 | grown k v =>
  cases k with
  | none=>exact QsC st.mint d o v x y
  | some k=>exact QsC (st.spend k).mint d o v x y
 | deep v dr nd=>exact QsC ({ st with dr:=dr,nd:=nd }:St) d o v x y
theorem QxG (st:St) (d:Nat) (o:Option Nat) (e:Eff) (x y:Nat):(e.app d o st).bx x y=match e with
  | .boxed _ b=>if x=d∧o=some y then b else st.bx x y
  | _=>st.bx x y:=by
 cases e with
 | val v=>simp only [Eff.app];unfold St.put;cases o<;>rfl
 | boxed v b =>
  cases o with
  | none=>simp [Eff.app]
  | some t =>
   simp only [Eff.app,St.set,St.setB,QrW]
   cases h:Nat.beq y t&&Nat.beq x d with
   | true =>
    simp only [Bool.and_eq_true] at h
    rw [if_pos ⟨Nat.eq_of_beq_eq_true h.2,by rw [Nat.eq_of_beq_eq_true h.1]⟩];rfl
   | false =>
    rw [if_neg];· rfl
    rintro ⟨rfl,e⟩
    cases e
    rw [Nat.beq_refl,Nat.beq_refl] at h
    cases h
 | grown k v=>simp only [Eff.app];unfold St.put;cases o<;>cases k<;>rfl
 | deep v dr nd=>simp only [Eff.app];unfold St.put;cases o<;>rfl
def St.g3 (st:St):Nat × (Nat→Bool) × (Nat→Option RBox) × (Nat→Option (List V)):=(st.nt,st.lv,st.rw,st.gl)
def St.dd (st:St):(Nat→Option RBox) × Nat:=(st.dr,st.nd)
theorem QBP (st:St) (d:Nat) (o:Option Nat) (e:Eff):e.grown? = false→(e.app d o st).g3=st.g3:=by
 intro h
 cases e with
 | val v=>simp only [Eff.app];unfold St.put;cases o<;>rfl
 | boxed v b=>cases o<;>rfl
 | grown k v=>cases h
 | deep v dr nd=>simp only [Eff.app];unfold St.put;cases o<;>rfl
theorem QBx (st st':St) (d:Nat) (o:Option Nat) (e:Eff) (h:st.g3=st'.g3):(e.app d o st).g3=(e.app d o st').g3:=by
 cases e with
 | val v=>simp only [Eff.app];unfold St.put;cases o<;>exact h
 | boxed v b=>cases o<;>exact h
 | deep v dr nd=>simp only [Eff.app];unfold St.put;cases o<;>exact h
 | grown k v=>simp only [Eff.app];unfold St.put;cases o<;>cases k<;>(simp only [St.g3,Prod.mk.injEq] at h ⊢;obtain ⟨h1,h2,h3,h4⟩:=h;simp [St.mint,St.spend,St.set,h1,h2,h3,h4])
theorem QBQ (st:St) (d:Nat) (o:Option Nat) (e:Eff):e.deep? = false→(e.app d o st).dd=st.dd:=by
 intro h
 cases e with
 | val v=>simp only [Eff.app];unfold St.put;cases o<;>rfl
 | boxed v b=>cases o<;>rfl
 | grown k v=>cases k<;>cases o<;>rfl
 | deep v dr nd=>cases h
theorem QBy (st st':St) (d:Nat) (o:Option Nat) (e:Eff) (h:st.dd=st'.dd):(e.app d o st).dd=(e.app d o st').dd:=by
 cases e with
 | val v=>simp only [Eff.app];unfold St.put;cases o<;>exact h
 | boxed v b=>cases o<;>exact h
 | deep v dr nd=>simp only [Eff.app];unfold St.put;cases o<;>rfl
 | grown k v=>simp only [Eff.app];unfold St.put;cases o<;>cases k<;>exact h
structure ApartL (ops:Array Oper) (L:List (Nat × Eff)):Prop where
 dst:∀ p∈L,∀ q∈L,∀ t,GF ops p.1=some t→GF ops q.1=some t→p=q
 nd:(L.map (·.1)).Nodup
theorem ApartL.tail {ops:Array Oper} {q:Nat × Eff} {L:List (Nat × Eff)} (h:ApartL ops (q::L)):ApartL ops L :=
 ⟨fun p hp r hr=>h.dst p (by simp [hp]) r (by simp [hr]),(List.nodup_cons.1 (by simpa using h.nd)).2⟩
theorem QgH (ops:Array Oper) (d:Nat) (st:St) (q:Nat × Eff) (L:List (Nat × Eff)):Ei ops d st (q::L)=Ei ops d (q.2.app d (GF ops q.1) st) L:=rfl
theorem QdV (ops:Array Oper) (d:Nat) (y:Nat):∀ (L:List (Nat × Eff)) (st:St),ApartL ops L →
  (∀ p∈L,GF ops p.1=some y→(Ei ops d st L).tm d y=p.2.v)∧((∀ p∈L,GF ops p.1≠some y)→(Ei ops d st L).tm d y=st.tm d y)
 | [],st,_=>⟨fun p hp=>(by cases hp),fun _=>rfl⟩
 | q::L,st,ha=>by
  have ih:=QdV ops d y L (q.2.app d (GF ops q.1) st) ha.tail
  rw [QgH]
  constructor
  ·intro p hp hd
   by_cases hL:∃ p'∈L,GF ops p'.1=some y
   ·obtain ⟨p',hp',hd'⟩:=hL
    have:p=p':=ha.dst p hp p' (by simp [hp']) y hd hd'
    subst this
    exact ih.1 p hp' hd
   ·have hpq:p=q:=by
     rcases List.mem_cons.1 hp with h | h
     ·exact h
     ·exact absurd ⟨p,h,hd⟩ hL
    subst hpq
    rw [ih.2 (fun p' hp' hd'=>hL ⟨p',hp',hd'⟩),QxF,if_pos ⟨rfl,hd⟩]
  ·intro hn
   rw [ih.2 (fun p hp=>hn p (by simp [hp])),QxF,if_neg (fun h=>hn q (by simp) h.2)]
theorem QaB (ops:Array Oper) (d:Nat) (y:Nat):∀ (L:List (Nat × Eff)) (st:St),ApartL ops L →
  (∀ p∈L,∀ v b,GF ops p.1=some y→p.2=.boxed v b→(Ei ops d st L).bx d y=b)∧((∀ p∈L,p.2.boxed? = true→GF ops p.1≠some y)→(Ei ops d st L).bx d y=st.bx d y)
 | [],st,_=>⟨fun p hp=>(by cases hp),fun _=>rfl⟩
 | q::L,st,ha=>by
  have ih:=QaB ops d y L (q.2.app d (GF ops q.1) st) ha.tail
  rw [QgH]
  constructor
  ·intro p hp v b hd he
   by_cases hL:∃ p'∈L,GF ops p'.1=some y
   ·obtain ⟨p',hp',hd'⟩:=hL
    have:p=p':=ha.dst p hp p' (by simp [hp']) y hd hd'
    subst this
    exact ih.1 p hp' v b hd he
   ·have hpq:p=q:=by
     rcases List.mem_cons.1 hp with h | h
     ·exact h
     ·exact absurd ⟨p,h,hd⟩ hL
    subst hpq
    rw [ih.2 (fun p' hp' _ hd'=>hL ⟨p',hp',hd'⟩),QxG,he]
    simp only [hd,and_self,if_true]
  ·intro hn
   rw [ih.2 (fun p hp=>hn p (by simp [hp])),QxG]
   cases hq:q.2 with
   | boxed v b =>
    simp only
    rw [if_neg (fun h=>hn q (by simp) (by rw [hq];rfl) h.2)]
   | val v=>rfl
   | grown k v=>rfl
   | deep v dr nd=>rfl
theorem Qeo (ops:Array Oper) (d:Nat) (x y:Nat) (hx:x≠d):∀ (L:List (Nat × Eff)) (st:St),(Ei ops d st L).tm x y=st.tm x y∧(Ei ops d st L).bx x y=st.bx x y
 | [],st=>⟨rfl,rfl⟩
 | q::L,st=>by
  obtain ⟨h1,h2⟩:=Qeo ops d x y hx L (q.2.app d (GF ops q.1) st)
  rw [QgH,h1,h2,QxF,QxG,if_neg (fun h=>hx h.1)]
  refine ⟨rfl,?_⟩
  cases q.2<;>first | rfl | (simp only;rw [if_neg (fun h=>hx h.1)])
theorem Qpy (ops:Array Oper) (d:Nat) (f:Nat × Eff→Bool):∀ (L:List (Nat × Eff)) (st st':St),(∀ p∈L,f p=false→p.2.grown? = false)→st.g3=st'.g3→(Ei ops d st L).g3=(Ei ops d st' (L.filter f)).g3
 | [],_,_,_,h=>h
 | q::L,st,st',hf,h=>by
  rw [QgH,List.filter_cons]
  cases hq:f q with
  | true=>exact Qpy ops d f L _ _ (fun p hp=>hf p (by simp [hp])) (QBx _ _ d _ q.2 h)
  | false=>exact Qpy ops d f L _ _ (fun p hp=>hf p (by simp [hp])) ((QBP st d _ q.2 (hf q (by simp) hq)).trans h)
theorem Qpz (ops:Array Oper) (d:Nat) (f:Nat × Eff→Bool):∀ (L:List (Nat × Eff)) (st st':St),(∀ p∈L,f p=false→p.2.deep? = false)→st.dd=st'.dd→(Ei ops d st L).dd=(Ei ops d st' (L.filter f)).dd
 | [],_,_,_,h=>h
 | q::L,st,st',hf,h=>by
  rw [QgH,List.filter_cons]
  cases hq:f q with
  | true=>exact Qpz ops d f L _ _ (fun p hp=>hf p (by simp [hp])) (QBy _ _ d _ q.2 h)
  | false=>exact Qpz ops d f L _ _ (fun p hp=>hf p (by simp [hp])) ((QBQ st d _ q.2 (hf q (by simp) hq)).trans h)
theorem St.ext' {A B:St} (h1:A.tm=B.tm) (h2:A.bx=B.bx) (h3:A.g3=B.g3) (h4:A.dd=B.dd):A=B:=by
 cases A;cases B;simp_all [St.g3,St.dd]
theorem Qy7 {ops:Array Oper} {d:Nat} {L L':List (Nat × Eff)} (st:St) (ha:ApartL ops L) (ha':ApartL ops L') (hp:∀ p,p∈L'↔p∈L) (f1 f2:Nat × Eff→Bool) (hf1:∀ p∈L,f1 p=false→p.2.grown? = false) (hf2:∀ p∈L,f2 p=false→p.2.deep? = false) (e1:L'.filter f1=L.filter f1) (e2:L'.filter f2=L.filter f2):Ei ops d st L'=Ei ops d st L:=by
 refine St.ext' ?_ ?_ ?_ ?_
 ·funext x y
  by_cases hx:x=d
  ·subst hx
   by_cases h:∃ p∈L,GF ops p.1=some y
   ·obtain ⟨p,h1,h2⟩:=h
    rw [(QdV ops x y L' st ha').1 p ((hp p).2 h1) h2,(QdV ops x y L st ha).1 p h1 h2]
   ·rw [(QdV ops x y L' st ha').2 (fun p h1 h2=>h ⟨p,(hp p).1 h1,h2⟩),(QdV ops x y L st ha).2 (fun p h1 h2=>h ⟨p,h1,h2⟩)]
  ·rw [(Qeo ops d x y hx L' st).1,(Qeo ops d x y hx L st).1]
 ·funext x y
  by_cases hx:x=d
  ·subst hx
   by_cases h:∃ p∈L,p.2.boxed? = true∧GF ops p.1=some y
   ·obtain ⟨p,h1,h3,h2⟩:=h
    cases he:p.2 with
    | boxed v b=>rw [(QaB ops x y L' st ha').1 p ((hp p).2 h1) v b h2 he,(QaB ops x y L st ha).1 p h1 v b h2 he]
    | val v=>rw [he] at h3;cases h3
    | grown k v=>rw [he] at h3;cases h3
    | deep v dr nd=>rw [he] at h3;cases h3
   ·rw [(QaB ops x y L' st ha').2 (fun p h1 h3 h2=>h ⟨p,(hp p).1 h1,h3,h2⟩),(QaB ops x y L st ha).2 (fun p h1 h3 h2=>h ⟨p,h1,h3,h2⟩)]
  ·rw [(Qeo ops d x y hx L' st).2,(Qeo ops d x y hx L st).2]
 ·rw [Qpy ops d f1 L' st st (fun p h=>hf1 p ((hp p).1 h)) rfl,Qpy ops d f1 L st st hf1 rfl,e1]
 ·rw [Qpz ops d f2 L' st st (fun p h=>hf2 p ((hp p).1 h)) rfl,Qpz ops d f2 L st st hf2 rfl,e2]
theorem QsD {ops:Array Oper} {x y:Nat}:∀ {l1 l2:List Nat},Qmp ops (l1++x::y::l2)=true→x∈JT ops y
 | [],l2,h=>by
  simp only [List.nil_append,Qmp,Bool.and_eq_true] at h
  exact YR.1 h.1
 | z::l1,l2,h=>by
  have h:((match l1++x::y::l2 with
   | []=>true
   | j::_=>Wi z (JT ops j))&&Qmp ops (l1++x::y::l2))=true:=h
  rw [Bool.and_eq_true] at h
  exact QsD h.2
theorem QjC {ops:Array Oper} {S:List Nat} {D:Nat→Prop} (hD:∀ i∈S,D i→∀ k∈JT ops i,k∈S→D k):∀ (n:Nat) (acc:List Nat),(∀ i∈acc,i∈S∧D i)→∀ i∈Qwa ops S n acc,D i
 | 0,acc,h,i,hi=>(h i hi).2
 | n+1,acc,h,i,hi=>by
  rw [Qwa] at hi
  refine QjC hD n _ ?_ i hi
  intro k hk
  obtain ⟨h1,h2⟩:=List.mem_filter.1 hk
  refine ⟨h1,?_⟩
  rw [Bool.or_eq_true] at h2
  rcases h2 with h2 | h2
  ·exact (h k (YR.1 h2)).2
  ·obtain ⟨j,hj,hkj⟩:=List.any_eq_true.1 h2
   exact hD j (h j hj).1 (h j hj).2 k (YR.1 hkj) h1
theorem QsE {α:Type} {x:α}:∀ {l1 l2 l3 l4:List α},l1++x::l2=l3++x::l4→(l1++x::l2).Nodup→l1=l3
 | [],_,[],_,_,_=>rfl
 | [],l2,y::l3,l4,e,hn=>by
  simp only [List.nil_append,List.cons_append,List.cons.injEq] at e
  obtain ⟨rfl,e⟩:=e
  rw [List.nil_append,List.nodup_cons,e] at hn
  exact absurd (by simp) hn.1
 | y::l1,l2,[],l4,e,hn=>by
  simp only [List.nil_append,List.cons_append,List.cons.injEq] at e
  obtain ⟨rfl,e⟩:=e
  rw [List.cons_append,List.nodup_cons] at hn
  exact absurd (by simp) hn.1
 | y::l1,l2,z::l3,l4,e,hn=>by
  simp only [List.cons_append,List.cons.injEq] at e
  obtain ⟨rfl,e⟩:=e
  rw [List.cons_append,List.nodup_cons] at hn
  rw [QsE e hn.2]
open Classical in
theorem QjD {α:Type} {f:α→Bool} {p:α} (hp:f p=true):∀ {l:List α},l.Nodup→(∀ x∈l,f x=true→x=p)→l.filter f=if p∈l then [p] else []
 | [],_,_=>by simp
 | x::l,hn,h=>by
  rw [List.nodup_cons] at hn
  have ih:=QjD hp hn.2 (fun y hy=>h y (by simp [hy]))
  rw [List.filter_cons]
  cases hx:f x with
  | true =>
   obtain rfl:=h x (by simp) hx
   rw [if_pos rfl,ih,if_neg hn.1,if_pos (by simp)]
  | false =>
   have hne:p≠x:=fun e=>by rw [← e,hp] at hx;cases hx
   rw [if_neg (by simp),ih]
   by_cases hl:p∈l
   ·rw [if_pos hl,if_pos (by simp [hl])]
   ·rw [if_neg hl,if_neg (by simp [hne,hl])]
theorem QaC {α β:Type} {f:α→β}:∀ {l:List α},(l.map f).Nodup→l.Nodup
 | [],_=>List.nodup_nil
 | x::l,h=>by
  rw [List.map_cons,List.nodup_cons] at h
  exact List.nodup_cons.2 ⟨fun hx=>h.1 (List.mem_map.2 ⟨x,hx,rfl⟩),QaC h.2⟩
theorem QAY {α:Type} (g:α) (R:List α):∃ R' g',g::R=R'++[g']:=by
 rcases List.eq_nil_or_concat (g::R) with h | ⟨R',g',h⟩
 ·cases h
 ·exact ⟨R',g',by rw [h];simp⟩
theorem QwB (H:CtxOk P w0.gl CF root) {dp nn id:Nat} {path:List Nat} {ops:Array Oper} {slots:List Nat} {q:Bool} {K:Z9 R} {r:R} {Q:Exit→Act→World→Prop} (m:Nat) :
  ∀ (S:List Nat) (st:St),(∀ i∈S,QfE P (CF m).I path id ops i=true∧(ZC ops i=true→q=false))→QAP (CF m) dp nn path id ops slots q S K st=some r →
   ∃ L:List (Nat × Eff),L.map (·.1)=S∧K (Ei ops dp st L)=some r∧∀ L1 p L2,L=L1++p::L2→QAd P base w0 dp nn θ ops Q slots q (Vl (CF m).I path id ops) p.1 p.2 (Ei ops dp st L1)
 | [],st,_,hs=>⟨[],rfl,hs,fun L1 p L2 h=>by cases L1<;>cases h⟩
 | i::S,st,hpl,hs=>by
  simp only [QAP] at hs
  split at hs
  case h_2=>cases hs
  rename_i o hi
  obtain ⟨hbx,hs⟩:=Qn hs
  obtain ⟨v,hk,hr⟩:=QBw (θ:=θ) (base:=base) (w0:=w0) (Q:=Q) H m hi (hpl i (by simp)).1 hbx (fun hg=>(hpl i (by simp)).2 (by unfold ZC;simp only [hi];exact hg)) hs
  obtain ⟨L,h1,h2,h3⟩:=QwB H m S _ (fun j hj=>hpl j (by simp [hj])) hk
  have hda:GF ops i=o.dst:=by unfold GF;rw [hi];rfl
  have e:∀ L1,Ei ops dp st ((i,v)::L1)=Ei ops dp (v.app dp o.dst st) L1:=fun L1=>by unfold Ei;rw [List.foldl_cons,hda]
  refine ⟨(i,v)::L,by simp [h1],by rw [e];exact h2,?_⟩
  intro L1 p L2 h
  cases L1 with
  | nil=>injection h with h4 h5;subst h4;exact hr
  | cons q L1 =>
   injection h with h4 h5
   subst h4
   rw [e]
   exact h3 L1 p L2 h5
theorem QhO {ops:Array Oper} {listed:Array Bool}:∀ (S1:List Nat) (Zp:List Nat) (i:Nat) (S2:List Nat),Qgg ops listed Zp (S1++i::S2)=true →
  i∉Zp∧i∉S1∧∀ p∈JT ops i,listed.getD p false=true∨p∈Zp∨p∈S1
 | [],Zp,i,S2,h=>by
  simp only [List.nil_append,Qgg,Bool.and_eq_true,Bool.not_eq_true',List.all_eq_true,Bool.or_eq_true] at h
  refine ⟨QhN h.1.1,by simp,fun p hp=>?_⟩
  rcases h.1.2 p hp with h1 | h1
  ·exact .inl h1
  ·exact .inr (.inl (YR.1 h1))
 | j::S1,Zp,i,S2,h=>by
  simp only [List.cons_append,Qgg,Bool.and_eq_true] at h
  obtain ⟨h1,h2,h3⟩:=QhO S1 (j::Zp) i S2 h.2
  refine ⟨fun hm=>h1 (by simp [hm]),?_,fun p hp=>?_⟩
  ·intro hm
   rcases List.mem_cons.1 hm with rfl | hm
   ·exact h1 (by simp)
   ·exact h2 hm
  ·rcases h3 p hp with h4 | h4 | h4
   ·exact .inl h4
   ·rcases List.mem_cons.1 h4 with rfl | h4
    ·exact .inr (.inr (by simp))
    ·exact .inr (.inl h4)
   ·exact .inr (.inr (by simp [h4]))
theorem Quy {ops:Array Oper} {k:Nat} {D:Nat→Prop} (hk:∀ p∈JT ops k,D p):∀ (S:List Nat),QrJ ops k S=true→(∀ i∈S,D i→∀ p∈JT ops i,D p)→∀ i∈S,D i
 | [],_,_,i,hi=>by cases hi
 | j::S,h,hc,i,hi=>by
  simp only [QrJ,Bool.and_eq_true,Bool.or_eq_true,List.any_eq_true] at h
  have ih:=Quy hk S h.2 (fun i hi=>hc i (by simp [hi]))
  rcases List.mem_cons.1 hi with rfl | hi
  ·rcases h.1 with h1 | ⟨q,hq,h1⟩
   ·exact hk _ (YR.1 h1)
   ·exact hc q (by simp [hq]) (ih q hq) _ (YR.1 h1)
  ·exact ih i hi
theorem QsF:∀ {S D:List Nat},S.Nodup→(∀ x∈S,x∈D)→S.length≤D.length
 | [],D,_,_=>Nat.zero_le _
 | x::S,D,hn,hs=>by
  rw [List.nodup_cons] at hn
  have h1:=QsF (D:=D.erase x) hn.2 (fun y hy=>(List.mem_erase_of_ne (fun e=>by subst e;exact hn.1 hy)).2 (hs y (by simp [hy])))
  have h2:=List.length_erase_of_mem (hs x (by simp))
  have h3:0<D.length:=List.length_pos_of_mem (hs x (by simp))
  rw [List.length_cons];omega
theorem QxH {S D:List Nat} (hd:D.Nodup) (hs:∀ x∈D,x∈S) (hl:S.length≤D.length):∀ x∈S,x∈D:=by
 intro x hx
 by_cases h:x∈D
 ·exact h
 ·have:=QsF (S:=x::D) (D:=S) (List.nodup_cons.2 ⟨h,hd⟩) (fun y hy=>by rcases List.mem_cons.1 hy with rfl | hy;exact hx;exact hs y hy)
  rw [List.length_cons] at this;omega
theorem Qyx:∀ {L:List (Nat × Eff)},(L.map (·.1)).Nodup→∀ p∈L,∀ q∈L,p.1=q.1→p=q
 | [],_,p,hp,_,_,_=>by cases hp
 | x::L,hn,p,hp,q,hq,e=>by
  rw [List.map_cons,List.nodup_cons] at hn
  rcases List.mem_cons.1 hp with hp | hp<;>rcases List.mem_cons.1 hq with hq | hq
  ·rw [hp,hq]
  ·exact absurd (List.mem_map.2 ⟨q,hq,by rw [← e,hp]⟩) hn.1
  ·exact absurd (List.mem_map.2 ⟨p,hp,by rw [e,hq]⟩) hn.1
  ·exact Qyx hn.2 p hp q hq e
theorem QsG {ops:Array Oper} {listed:Array Bool}:∀ {S Zp:List Nat},Qgg ops listed Zp S=true→S.Nodup∧∀ i∈S,i∉Zp
 | [],_,_=>⟨List.nodup_nil,fun i hi=>by cases hi⟩
 | i::S,Zp,h=>by
  simp only [Qgg,Bool.and_eq_true,Bool.not_eq_true'] at h
  obtain ⟨h1,h2⟩:=QsG h.2
  refine ⟨List.nodup_cons.2 ⟨fun hm=>h2 i hm (by simp),h1⟩,fun j hj=>?_⟩
  rcases List.mem_cons.1 hj with rfl | hj
  ·exact QhN h.1.1
  ·exact fun hb=>h2 j hj (by simp [hb])
open Classical in
theorem Quz {α:Type} {D:α→Prop}:∀ {L:List α},(∃ p∈L,¬ D p)→∃ L1 p L2,L=L1++p::L2∧(∀ q∈L1,D q)∧¬ D p
 | [],⟨p,hp,_⟩=>by cases hp
 | x::L,⟨p,hp,hn⟩=>by
  by_cases hx:D x
  ·have:∃ p∈L,¬ D p:=by
    rcases List.mem_cons.1 hp with rfl | hp
    ·exact absurd hx hn
    ·exact ⟨p,hp,hn⟩
   obtain ⟨L1,q,L2,h1,h2,h3⟩:=Quz this
   exact ⟨x::L1,q,L2,by rw [h1];rfl,fun y hy=>by rcases List.mem_cons.1 hy with rfl | hy;exact hx;exact h2 y hy,h3⟩
  ·exact ⟨[],x,L,rfl,(fun q hq=>by cases hq),hx⟩
theorem QAZ {A B:Array Bool} (hs:A.size=B.size) (h:∀ j,A.getD j false=B.getD j false):A=B:=by
 apply Array.ext hs
 intro i h1 h2
 have:=h i
 rw [Array.getD_eq_getD_getElem?,Array.getD_eq_getD_getElem?,Array.getElem?_eq_getElem h1,Array.getElem?_eq_getElem h2] at this
 simpa using this
theorem Qep (l:Array Bool):∀ S:List Nat,(S.foldl (fun l i=>l.setIfInBounds i true) l).size=l.size:=by
 intro S
 induction S generalizing l with
 | nil=>rfl
 | cons i S ih=>rw [List.foldl_cons,ih,Array.size_setIfInBounds]
theorem Qy8 {l:Array Bool} {i:Nat} (hi:i<l.size) (d d':Bool):l.getD i d=l.getD i d':=by
 rw [Array.getD_eq_getD_getElem?,Array.getD_eq_getD_getElem?,Array.getElem?_eq_getElem hi];rfl
theorem QwC {ops:Array Oper} {listed:Array Bool} {S:List Nat} {D:Nat→Prop} (hl:∀ p,listed.getD p false=true→D p) (hc:∀ i∈S,D i→∀ p∈JT ops i,D p) (ht:∀ i∈S,Qmo ops listed i=true→(∀ p∈JT ops i,D p)→D i) :
  ∀ (n:Nat) (acc:List Nat),(∀ i∈acc,i∈S∧D i)→∀ i∈QzI ops listed S n acc,D i
 | 0,acc,ha,i,hi=>(ha i hi).2
 | n+1,acc,ha,i,hi=>by
  refine QwC hl hc ht n _ (fun j hj=>?_) i hi
  obtain ⟨hjS,hj⟩:=List.mem_filter.1 hj
  simp only [Bool.or_eq_true,Bool.and_eq_true,List.any_eq_true,List.all_eq_true] at hj
  refine ⟨hjS,?_⟩
  rcases hj with (hj | ⟨k,hk,hj⟩) | ⟨hj1,hj2⟩
  ·exact (ha j (YR.1 hj)).2
  ·exact hc k (ha k hk).1 (ha k hk).2 j (YR.1 hj)
  ·refine ht j hjS hj1 fun p hp=>?_
   rcases hj2 p hp with h | h
   ·exact hl p h
   ·exact (ha p (YR.1 h)).2
theorem QAg {ops:Array Oper} {l l':Array Bool} {i:Nat} (h:Qmo ops l i=true) (hm:∀ j,l.getD j true=true→l'.getD j true=true) (hr:∀ p∈JT ops i,l'.getD p false=true):Region.free .any ops l' i=true:=by
 unfold Qmo at h
 rw [Bool.and_eq_true] at h
 have h:=h.2
 unfold Region.free
 split at h
 case h_2=>cases h
 rename_i oi hoi
 rw [hoi]
 simp only [List.all_eq_true,List.mem_range,Bool.or_eq_true] at h ⊢
 intro j hj
 rcases h j hj with ((h1 | h1) | h1) | h1
 ·exact .inl (.inl (by rw [Nat.eq_of_beq_eq_true h1];exact beq_self_eq_true i))
 ·exact .inl (.inr (hm j h1))
 ·refine .inl (.inr ?_)
  have hp:l'.getD j false=true:=hr j (by unfold JT;rw [hoi];exact YR.1 h1)
  rw [Array.getD_eq_getD_getElem?] at hp ⊢
  cases he:l'[j]? with
  | none=>rfl
  | some b=>rw [he] at hp;simpa using hp
 ·right
  have hoj:=Array.getElem?_eq_getElem hj
  rw [hoj] at h1 ⊢
  simp only [Bool.or_eq_true] at h1 ⊢
  rcases h1 with h1 | h1
  ·left
   have hm:=YR.1 h1
   unfold QkX at hm
   obtain ⟨e,he,hei⟩:=List.mem_map.1 hm
   obtain ⟨he1,he2⟩:=List.mem_filter.1 he
   rw [Array.any_eq_true']
   refine ⟨e,by simpa using he1,?_⟩
   rw [he2,hei];simp
  ·exact .inr h1
theorem QvG {dp nn id:Nat} {path:List Nat} {I:List (List Nat × Nat)} {ops:Array Oper} {listed:Array Bool} {S:List Nat} {Q:Exit→Act→World→Prop} (hok:QgA P I path id ops listed S=true) (hsel:Region.noSelect ops=true) (hQp:∀ c a w,¬ Q (.panic c) a w) {L:List (Nat × Eff)} (hL:L.map (·.1)=S) {st:St}
  (hrec:∀ L1 p L2,L=L1++p::L2→QAd P base w0 dp nn θ ops Q (QnB ops S) (!(S.any (ZC ops))) (Vl I path id ops) p.1 p.2 (Ei ops dp st L1))
  (hfin:∀ M a w f,RelA P base w0 dp nn (Ei ops dp st L) θ M a w→unl ops (S.foldl (fun l i=>l.setIfInBounds i true) listed)≤f→wpAny P .any ops Q f (S.foldl (fun l i=>l.setIfInBounds i true) listed) a w) :
  ∀ (c:Nat) (done:List (Nat × Eff)),done.length+c=L.length→(done.map (·.1)).Nodup→(∀ p∈done,p∈L)→(∀ p∈done,∀ k∈JT ops p.1,((done.map (·.1)).foldl (fun l i=>l.setIfInBounds i true) listed).getD k false=true)→(∃ rest,L.filter (fun p=>ZC ops p.1)=done.filter (fun p=>ZC ops p.1)++rest) →
   ∀ M a w f,RelA P base w0 dp nn (Ei ops dp st done) θ M a w→unl ops ((done.map (·.1)).foldl (fun l i=>l.setIfInBounds i true) listed)≤f →
    wpAny P .any ops Q f ((done.map (·.1)).foldl (fun l i=>l.setIfInBounds i true) listed) a w:=by
 unfold QgA at hok
 simp only [Bool.and_eq_true,List.all_eq_true,Bool.or_eq_true,Bool.not_eq_true'] at hok
 obtain ⟨⟨⟨⟨⟨⟨_,hsize⟩,hchain⟩,hdeeps⟩,hS⟩,htopo⟩,hwait⟩:=hok
 have hsize:=Nat.eq_of_beq_eq_true hsize
 obtain ⟨hSn,_⟩:=QsG htopo
 have hLn:(L.map (·.1)).Nodup:=by rw [hL];exact hSn
 have inj:=Qyx hLn
 have memS:∀ p∈L,p.1∈S:=fun p hp=>by rw [← hL];exact List.mem_map.2 ⟨p,hp,rfl⟩
 have ofS:∀ i∈S,∃ p∈L,p.1=i:=fun i hi=>by rw [← hL] at hi;obtain ⟨p,h1,h2⟩:=List.mem_map.1 hi;exact ⟨p,h1,h2⟩
 have Slt:∀ i∈S,i<ops.size∧i<listed.size:=by
  intro i hi
  have h1:=(hS i hi).1.1.1
  cases ho:ops[i]? with
  | some o =>
   have:=(Array.getElem?_eq_some_iff.1 ho).1
   omega
  | none =>
   unfold QfE Vl at h1
   simp [ho] at h1
 have Sun:∀ i∈S,listed.getD i false=false:=fun i hi=>by rw [Qy8 (Slt i hi).2 false true];exact (hS i hi).1.1.2
 have recL:∀ p∈L,(p.2.boxed? = true→Qwb ops p.1=true)∧(p.2.grown? = true→ZC ops p.1=true)∧(p.2.deep? = true→Vl I path id ops p.1=true):=by
  intro p hp
  obtain ⟨A,B,hAB⟩:=List.append_of_mem hp
  obtain ⟨r1,r2,r3,_⟩:=hrec A p B hAB
  exact ⟨fun h=>(r1 h).1,r2,r3⟩
 have notG:∀ p∈L,(fun p:Nat × Eff=>ZC ops p.1) p=false→p.2.grown? = false:=by
  intro p hp h
  cases h2:p.2.grown? with
  | false=>rfl
  | true=>rw [show (fun p:Nat × Eff=>ZC ops p.1) p=ZC ops p.1 from rfl,(recL p hp).2.1 h2] at h;cases h
 have notD:∀ p∈L,(fun p:Nat × Eff=>Vl I path id ops p.1) p=false→p.2.deep? = false:=by
  intro p hp h
  cases h2:p.2.deep? with
  | false=>rfl
  | true=>rw [show (fun p:Nat × Eff=>Vl I path id ops p.1) p=Vl I path id ops p.1 from rfl,(recL p hp).2.2 h2] at h;cases h
 have hLnd:L.Nodup:=QaC hLn
 have hchainL:Qmp ops ((L.filter (fun p=>ZC ops p.1)).map (·.1))=true:=by
  rw [← hchain,← hL,List.filter_map]
  rfl
 have deepOne:(∀ p∈L,Vl I path id ops p.1=false)∨∃ p∈L,Vl I path id ops p.1=true∧(∀ x∈L,Vl I path id ops x.1=true→x=p) ∧
   ∀ j∈S,j=p.1∨Qeh ops j=false∨j∈Qwa ops S S.length [p.1]∨p.1∈Qwa ops S S.length [j]:=by
  unfold QrK at hdeeps
  split at hdeeps
  ·rename_i hnil
   refine .inl fun p hp=>?_
   cases hd:Vl I path id ops p.1 with
   | false=>rfl
   | true=>have:p.1∈S.filter (Vl I path id ops):=List.mem_filter.2 ⟨memS p hp,hd⟩;rw [hnil] at this;cases this
  ·rename_i i hone
   have hi:i∈S.filter (Vl I path id ops):=by rw [hone];simp
   obtain ⟨hiS,hid⟩:=List.mem_filter.1 hi
   obtain ⟨p,hp,rfl⟩:=ofS i hiS
   refine .inr ⟨p,hp,hid,fun x hx hxd=>?_,fun j hj=>?_⟩
   ·have:x.1∈S.filter (Vl I path id ops):=List.mem_filter.2 ⟨memS x hx,hxd⟩
    rw [hone,List.mem_singleton] at this
    exact inj x hx p hp this
   ·have:=List.all_eq_true.1 hdeeps j hj
    simp only [Bool.or_eq_true,Bool.not_eq_true'] at this
    rcases this with ((h | h) | h) | h
    ·exact .inl (Nat.eq_of_beq_eq_true h)
    ·exact .inr (.inl h)
    ·exact .inr (.inr (.inl (YR.1 h)))
    ·exact .inr (.inr (.inr (YR.1 h)))
  ·cases hdeeps
 have hap:ApartL ops L:=by
  refine ⟨?_,hLn⟩
  intro p hp q hq t h1 h2
  by_cases e:p.1=q.1
  ·exact inj p hp q hq e
  ·exfalso
   rcases (hS p.1 (memS p hp)).2 q.1 (memS q hq) with h3 | h3
   ·exact e (Nat.eq_of_beq_eq_true h3)
   ·unfold Qvd at h3
    rw [h2,h1] at h3
    simp [Nat.beq_refl] at h3
 have inSlots:∀ p∈L,p.2.boxed? = true→∀ t,GF ops p.1=some t→t∈QnB ops S:=by
  intro p hp hb t ht
  unfold QnB
  exact List.mem_filterMap.2 ⟨p.1,List.mem_filter.2 ⟨memS p hp,(recL p hp).1 hb⟩,ht⟩
 intro c
 induction c with
 | zero =>
  intro done hlen hnd hsub _ hgp M a w f h hf
  have hDS:∀ x∈done.map (·.1),x∈S:=fun x hx=>by obtain ⟨p,hp,rfl⟩:=List.mem_map.1 hx;exact memS p (hsub p hp)
  have hfull:∀ x∈S,x∈done.map (·.1):=QxH hnd hDS (by rw [← hL,List.length_map,List.length_map];omega)
  have hmem:∀ p,p∈done↔p∈L:=by
   intro p
   refine ⟨hsub p,fun hp=>?_⟩
   obtain ⟨q,hq,e⟩:=List.mem_map.1 (hfull p.1 (memS p hp))
   rw [inj q (hsub q hq) p hp e] at hq
   exact hq
  have he:(done.map (·.1)).foldl (fun l i=>l.setIfInBounds i true) listed=S.foldl (fun l i=>l.setIfInBounds i true) listed:=by
   refine QAZ (by rw [Qep,Qep]) fun j=>?_
   rw [QmH (fun i hi=>(Slt i (hDS i hi)).2),QmH (fun i hi=>(Slt i hi).2)]
   by_cases hj:j∈S
   ·rw [if_pos (hfull j hj),if_pos hj]
   ·rw [if_neg (fun hh=>hj (hDS j hh)),if_neg hj]
  rw [he] at hf ⊢
  have hdnd:done.Nodup:=QaC hnd
  have e1:done.filter (fun p=>ZC ops p.1)=L.filter (fun p=>ZC ops p.1):=by
   obtain ⟨rest,hr⟩:=hgp
   cases rest with
   | nil=>rw [hr,List.append_nil]
   | cons g rest =>
    exfalso
    have hgL:g∈L.filter (fun p=>ZC ops p.1):=by rw [hr];simp
    obtain ⟨g1,g2⟩:=List.mem_filter.1 hgL
    have hn:=hLnd.filter (fun p=>ZC ops p.1)
    rw [hr] at hn
    exact (List.nodup_append.1 hn).2.2 g (List.mem_filter.2 ⟨(hmem g).2 g1,g2⟩) g (by simp) rfl
  have e2:done.filter (fun p=>Vl I path id ops p.1)=L.filter (fun p=>Vl I path id ops p.1):=by
   rcases deepOne with h0 | ⟨p,hp,hpd,hone,_⟩
   ·rw [List.filter_eq_nil_iff.2 (fun x hx=>by rw [h0 x (hsub x hx)];simp),List.filter_eq_nil_iff.2 (fun x hx=>by rw [h0 x hx];simp)]
   ·rw [QjD (p:=p) hpd hLnd hone,QjD (p:=p) hpd hdnd (fun x hx=>hone x (hsub x hx)),if_pos hp,if_pos ((hmem p).2 hp)]
  rw [Qy7 st hap ⟨fun p hp r hr=>hap.dst p (hsub p hp) r (hsub r hr),hnd⟩ hmem (fun p=>ZC ops p.1) (fun p=>Vl I path id ops p.1) notG notD e1 e2] at h
  exact hfin M a w f h hf
 | succ c ih =>
  intro done hlen hnd hsub hcl hgp M a w f h hf
  have hDS:∀ x∈done.map (·.1),x∈S:=fun x hx=>by obtain ⟨p,hp,rfl⟩:=List.mem_map.1 hx;exact memS p (hsub p hp)
  have hDlt:∀ i∈done.map (·.1),i<listed.size:=fun i hi=>(Slt i (hDS i hi)).2
  have hget:∀ j d,((done.map (·.1)).foldl (fun l i=>l.setIfInBounds i true) listed).getD j d=if j∈done.map (·.1) then true else listed.getD j d:=fun j d=>QmH hDlt
  have hnot:¬ ∀ i∈S,i∈done.map (·.1):=by
   intro hall
   have:=QsF hSn hall
   rw [← hL,List.length_map,List.length_map] at this
   omega
  have inS:∀ i∈S,((done.map (·.1)).foldl (fun l i=>l.setIfInBounds i true) listed).getD i false=true→i∈done.map (·.1):=by
   intro i hi hg
   rw [hget] at hg
   by_cases hm:i∈done.map (·.1)
   ·exact hm
   ·rw [if_neg hm,Sun i hi] at hg;cases hg
  have inD:∀ p∈L,p.1∈done.map (·.1)→p∈done:=by
   intro p hp hm
   obtain ⟨q,hq,e⟩:=List.mem_map.1 hm
   rw [inj q (hsub q hq) p hp e] at hq
   exact hq
  obtain ⟨L1,p0,L2,hsplit,hL1,hp0⟩:=Quz (D:=fun p=>p∈done) (L:=L) (by
   by_cases hall:∃ p∈L,p∉done
   ·exact hall
   ·refine absurd (fun i hi=>?_) hnot
    obtain ⟨p,hp,rfl⟩:=ofS i hi
    by_cases hd:p∈done
    ·exact List.mem_map.2 ⟨p,hd,rfl⟩
    ·exact absurd ⟨p,hp,hd⟩ hall)
  have hp0L:p0∈L:=by rw [hsplit];simp
  have hready0:p0.1∈Region.ready .any ops ((done.map (·.1)).foldl (fun l i=>l.setIfInBounds i true) listed):=by
   refine Qap.2 ⟨(Slt _ (memS p0 hp0L)).1,?_,fun k hk=>?_⟩
   ·rw [hget,if_neg (fun hm=>hp0 (inD p0 hp0L hm))]
    exact (hS _ (memS p0 hp0L)).1.1.2
   ·have ht:Qgg ops listed [] (L1.map (·.1)++p0.1::L2.map (·.1))=true:=by
     rw [← List.map_cons,← List.map_append,← hsplit,hL];exact htopo
    obtain ⟨_,_,h3⟩:=QhO _ _ _ _ ht
    rw [hget]
    rcases h3 k hk with h4 | h4 | h4
    ·by_cases hm:k∈done.map (·.1)
     ·rw [if_pos hm]
     ·rw [if_neg hm];exact h4
    ·cases h4
    ·obtain ⟨q,hq,rfl⟩:=List.mem_map.1 h4
     rw [if_pos (List.mem_map.2 ⟨q,hL1 q hq,rfl⟩)]
  have hcount:∀ j∈Region.ready .any ops ((done.map (·.1)).foldl (fun l i=>l.setIfInBounds i true) listed),unl ops (((done.map (·.1)).foldl (fun l i=>l.setIfInBounds i true) listed).setIfInBounds j true)+1≤unl ops ((done.map (·.1)).foldl (fun l i=>l.setIfInBounds i true) listed):=by
   intro j hj
   obtain ⟨h1,h2,_⟩:=Qap.1 hj
   exact QvF h1 (by rw [Qep];exact hsize) h2
  obtain ⟨f',rfl⟩:∃ f',f=f'+1:=⟨f - 1,by have:=hcount _ hready0;omega⟩
  have each:∀ q∈L,q.1∈Region.ready .any ops ((done.map (·.1)).foldl (fun l i=>l.setIfInBounds i true) listed) →
    (wpOp P ops Q q.1 (fun a' w'=>∃ M',RelA P base w0 dp nn (q.2.app dp (GF ops q.1) (Ei ops dp st done)) θ M' a' w') a w ∧
     ((ops[q.1]?.map Qei).getD false=true→∃ oi u,ops[q.1]? = some oi∧Yields P ops oi u a∧RelA P base w0 dp nn (q.2.app dp (GF ops q.1) (Ei ops dp st done)) θ M (a.put oi.dst u) w)) ∧
    (∀ M' a' w',RelA P base w0 dp nn (q.2.app dp (GF ops q.1) (Ei ops dp st done)) θ M' a' w'→wpAny P .any ops Q f' (((done.map (·.1)).foldl (fun l i=>l.setIfInBounds i true) listed).setIfInBounds q.1 true) a' w'):=by
   intro q hqL hj
   obtain ⟨hj1,hj2,hj3⟩:=Qap.1 hj
   have hjD:q.1∉done.map (·.1):=fun hm=>by rw [hget,if_pos hm] at hj2;cases hj2
   have hjS:q.1∈S:=memS q hqL
   obtain ⟨A,B,hAB⟩:=List.append_of_mem hqL
   have hmemA:∀ p∈A,p∈L:=fun p hp=>by rw [hAB];simp [hp]
   have htA:Qgg ops listed [] (A.map (·.1)++q.1::B.map (·.1))=true:=by
    rw [← List.map_cons,← List.map_append,← hAB,hL];exact htopo
   obtain ⟨_,_,hpA⟩:=QhO _ _ _ _ htA
   have hAn:(A.map (·.1)).Nodup:=by
    have:=hLn
    rw [hAB,List.map_append] at this
    exact (List.nodup_append.1 this).1
   have hqA:q∉A:=by
    intro hm
    have:=hLn
    rw [hAB,List.map_append] at this
    exact (List.nodup_append.1 this).2.2 q.1 (List.mem_map.2 ⟨q,hm,rfl⟩) q.1 (by simp) rfl
   have hqD:q∉done:=fun hm=>hjD (List.mem_map.2 ⟨q,hm,rfl⟩)
   have hapD:ApartL ops done:=⟨fun p hp r hr=>hap.dst p (hsub p hp) r (hsub r hr),hnd⟩
   have hapA:ApartL ops A:=⟨fun p hp r hr=>hap.dst p (hmemA p hp) r (hmemA r hr),hAn⟩
   have hdnd:done.Nodup:=QaC hnd
   have hAnd:A.Nodup:=QaC hAn
   have clA:∀ i∈S,i∈A.map (·.1)→∀ k∈JT ops i,k∈S→k∈A.map (·.1):=by
    intro i hi hiA k hk hkS
    obtain ⟨p,hp,rfl⟩:=List.mem_map.1 hiA
    obtain ⟨A1,A2,hA12⟩:=List.append_of_mem hp
    have ht:Qgg ops listed [] (A1.map (·.1)++p.1::(A2++q::B).map (·.1))=true:=by
     rw [← List.map_cons,← List.map_append]
     have:A1++p::(A2++q::B)=L:=by rw [hAB,hA12];simp
     rw [this,hL];exact htopo
    obtain ⟨_,_,h3⟩:=QhO _ _ _ _ ht
    rcases h3 k hk with h4 | h4 | h4
    ·rw [Sun k hkS] at h4;cases h4
    ·cases h4
    ·obtain ⟨x,hx,rfl⟩:=List.mem_map.1 h4
     exact List.mem_map.2 ⟨x,by rw [hA12];simp [hx],rfl⟩
   have clD:∀ i∈S,i∈done.map (·.1)→∀ k∈JT ops i,k∈S→k∈done.map (·.1):=by
    intro i hi hiD k hk hkS
    obtain ⟨p,hp,rfl⟩:=List.mem_map.1 hiD
    exact inS k hkS (hcl p hp k hk)
   have prD:∀ k∈JT ops q.1,k∈S→k∈done.map (·.1):=fun k hk hkS=>inS k hkS (hj3 k hk)
   have prA:∀ k∈JT ops q.1,k∈S→k∈A.map (·.1):=by
    intro k hk hkS
    rcases hpA k hk with h4 | h4 | h4
    ·rw [Sun k hkS] at h4;cases h4
    ·cases h4
    ·exact h4
   have inA:∀ p∈L,p.1∈A.map (·.1)→p∈A:=by
    intro p hp hm
    obtain ⟨x,hx,e⟩:=List.mem_map.1 hm
    rw [inj x (hmemA x hx) p hp e] at hx
    exact hx
   have hqAm:q.1∉A.map (·.1):=fun hm=>hqA (inA q hqL hm)
   have eGr:ZC ops q.1=true→done.filter (fun p=>ZC ops p.1)=A.filter (fun p=>ZC ops p.1)∧∃ rest,L.filter (fun p=>ZC ops p.1)=done.filter (fun p=>ZC ops p.1)++q::rest:=by
    intro hgq
    obtain ⟨rest,hr⟩:=hgp
    have hn:=hLnd.filter (fun p=>ZC ops p.1)
    have hqm:q∈L.filter (fun p=>ZC ops p.1):=List.mem_filter.2 ⟨hqL,hgq⟩
    have hqr:q∈rest:=by
     rw [hr] at hqm
     rcases List.mem_append.1 hqm with h1 | h1
     ·exact absurd (List.mem_filter.1 h1).1 hqD
     ·exact h1
    obtain ⟨R1,R2,hR⟩:=List.append_of_mem hqr
    have hR1:R1=[]:=by
     cases R1 with
     | nil=>rfl
     | cons g R1 =>
      exfalso
      obtain ⟨R',g',hg'⟩:=QAY g R1
      have e3:L.filter (fun p=>ZC ops p.1)=(done.filter (fun p=>ZC ops p.1)++R')++g'::q::R2:=by
       rw [hr,hR,hg'];simp
      have hc:=hchainL
      rw [e3,List.map_append,List.map_cons,List.map_cons] at hc
      have hpre:=QsD hc
      have hg'L:g'∈L.filter (fun p=>ZC ops p.1):=by rw [e3];simp
      obtain ⟨k1,k2⟩:=List.mem_filter.1 hg'L
      have hg'd:=inD g' k1 (prD g'.1 hpre (memS g' k1))
      rw [hr,hR,hg'] at hn
      exact (List.nodup_append.1 hn).2.2 g' (List.mem_filter.2 ⟨hg'd,k2⟩) g' (by simp) rfl
    rw [hR1,List.nil_append] at hR
    rw [hR] at hr
    refine ⟨?_,R2,hr⟩
    have e4:L.filter (fun p=>ZC ops p.1)=A.filter (fun p=>ZC ops p.1)++q::B.filter (fun p=>ZC ops p.1):=by
     rw [hAB,List.filter_append,List.filter_cons,if_pos hgq]
    exact QsE (hr.symm.trans e4) (by rw [← hr];exact hn)
   have gEq:ZC ops q.1=true∨S.any (ZC ops)=false→(Ei ops dp st done).g3=(Ei ops dp st A).g3:=by
    intro hh
    have e5:done.filter (fun p=>ZC ops p.1)=A.filter (fun p=>ZC ops p.1):=by
     rcases hh with hh | hh
     ·exact (eGr hh).1
     ·rw [List.any_eq_false] at hh
      rw [List.filter_eq_nil_iff.2 (fun x hx=>hh x.1 (memS x (hsub x hx))),List.filter_eq_nil_iff.2 (fun x hx=>hh x.1 (memS x (hmemA x hx)))]
    rw [Qpy ops dp _ done st st (fun p hp=>notG p (hsub p hp)) rfl,Qpy ops dp _ A st st (fun p hp=>notG p (hmemA p hp)) rfl,e5]
   have dEq:Qeh ops q.1=true∨Vl I path id ops q.1=true→(Ei ops dp st done).dd=(Ei ops dp st A).dd:=by
    intro hh
    have e6:done.filter (fun p=>Vl I path id ops p.1)=A.filter (fun p=>Vl I path id ops p.1):=by
     rcases deepOne with h0 | ⟨p,hp,hpd,hone,hord⟩
     ·rw [List.filter_eq_nil_iff.2 (fun x hx=>by rw [h0 x (hsub x hx)];simp),List.filter_eq_nil_iff.2 (fun x hx=>by rw [h0 x (hmemA x hx)];simp)]
     ·rw [QjD (p:=p) hpd hAnd (fun x hx=>hone x (hmemA x hx)),QjD (p:=p) hpd hdnd (fun x hx=>hone x (hsub x hx))]
      have hiff:p∈done↔p∈A:=by
       by_cases hqp:q=p
       ·subst hqp;exact ⟨fun h=>absurd h hqD,fun h=>absurd h hqA⟩
       have hsee:Qeh ops q.1=true:=by
        rcases hh with hh | hh
        ·exact hh
        ·exact absurd (hone q hqL hh) hqp
       rcases hord q.1 hjS with h1 | h1 | h1 | h1
       ·exact absurd (inj q hqL p hp h1) hqp
       ·rw [hsee] at h1;cases h1
       ·constructor
        ·intro hpD
         exact absurd (QjC (D:=fun i=>i∈done.map (·.1)) clD S.length [p.1] (fun i hi=>by rw [List.mem_singleton.1 hi];exact ⟨memS p hp,List.mem_map.2 ⟨p,hpD,rfl⟩⟩) q.1 h1) hjD
        ·intro hpA
         exact absurd (QjC (D:=fun i=>i∈A.map (·.1)) clA S.length [p.1] (fun i hi=>by rw [List.mem_singleton.1 hi];exact ⟨memS p hp,List.mem_map.2 ⟨p,hpA,rfl⟩⟩) q.1 h1) hqAm
       ·have k1:=QjC (D:=fun i=>i=q.1∨i∈done.map (·.1)) (fun i hi hiD k hk hkS=>by
         rcases hiD with rfl | hiD
         ·exact .inr (prD k hk hkS)
         ·exact .inr (clD i hi hiD k hk hkS)) S.length [q.1] (fun i hi=>by rw [List.mem_singleton.1 hi];exact ⟨hjS,.inl rfl⟩) p.1 h1
        have k2:=QjC (D:=fun i=>i=q.1∨i∈A.map (·.1)) (fun i hi hiD k hk hkS=>by
         rcases hiD with rfl | hiD
         ·exact .inr (prA k hk hkS)
         ·exact .inr (clA i hi hiD k hk hkS)) S.length [q.1] (fun i hi=>by rw [List.mem_singleton.1 hi];exact ⟨hjS,.inl rfl⟩) p.1 h1
        have hne:p.1≠q.1:=fun e=>hqp (inj p hp q hqL e).symm
        exact ⟨fun _=>inA p hp (k2.resolve_left hne),fun _=>inD p hp (k1.resolve_left hne)⟩
      by_cases hpd2:p∈done
      ·rw [if_pos (hiff.1 hpd2),if_pos hpd2]
      ·rw [if_neg (fun h=>hpd2 (hiff.2 h)),if_neg hpd2]
    rw [Qpz ops dp _ done st st (fun p hp=>notD p (hsub p hp)) rfl,Qpz ops dp _ A st st (fun p hp=>notD p (hmemA p hp)) rfl,e6]
   obtain ⟨hq1,hq2,hqdp,hq3⟩:=hrec A q B hAB
   have hrun:=hq3 (Ei ops dp st done) (fun t ht=>by
    by_cases hex:∃ p∈L,GF ops p.1=some t
    ·obtain ⟨p,hp,hd⟩:=hex
     have hne:p.1≠q.1:=by
      intro e
      have hself:=(hS q.1 hjS).1.2
      unfold QzH at hself
      rw [← e,hd] at hself
      simp only [Bool.not_eq_true'] at hself
      rw [e] at hself
      exact QhN hself ht
     have hpre:p.1∈JT ops q.1:=by
      rcases (hS q.1 hjS).2 p.1 (memS p hp) with h3 | h3
      ·exact absurd (Nat.eq_of_beq_eq_true h3).symm hne
      ·unfold Qvd at h3
       rw [hd,Bool.and_eq_true] at h3
       have h6:=h3.2
       rw [Bool.or_eq_true,Bool.not_eq_true'] at h6
       rcases h6 with h4 | h4
       ·exact absurd ht (QhN h4)
       ·exact YR.1 h4
     have hpd:p∈done:=inD p hp (inS p.1 (memS p hp) (hj3 p.1 hpre))
     have hpA2:p∈A:=by
      rcases hpA p.1 hpre with h4 | h4 | h4
      ·rw [Sun p.1 (memS p hp)] at h4;cases h4
      ·cases h4
      ·obtain ⟨p',hp',e⟩:=List.mem_map.1 h4
       rw [inj p' (hmemA p' hp') p hp e] at hp'
       exact hp'
     rw [(QdV ops dp t done st hapD).1 p hpd hd,(QdV ops dp t A st hapA).1 p hpA2 hd]
    ·rw [(QdV ops dp t done st hapD).2 (fun p hp hd=>hex ⟨p,hsub p hp,hd⟩),(QdV ops dp t A st hapA).2 (fun p hp hd=>hex ⟨p,hmemA p hp,hd⟩)]) (fun x y hxy=>by
     by_cases hx:x=dp
     ·subst hx
      have hy:y∉QnB ops S:=by
       intro hm
       rw [Nat.beq_refl,YR.2 hm] at hxy
       cases hxy
      rw [(QaB ops x y done st hapD).2 (fun p hp hb hd=>hy (inSlots p (hsub p hp) hb y hd)),(QaB ops x y A st hapA).2 (fun p hp hb hd=>hy (inSlots p (hmemA p hp) hb y hd))]
     ·rw [(Qeo ops dp x y hx done st).2,(Qeo ops dp x y hx A st).2]) ⟨(fun hq=>by
     rw [Bool.not_eq_true'] at hq
     exact congrArg (fun x=>x.2.2.1) (gEq (.inr hq))),fun hse=>congrArg Prod.fst (dEq (.inl hse))⟩ (fun hb t ht=>by
     have h0:=(hq1 hb).2 t ht
     rw [(QaB ops dp t A st hapA).2 (fun p hp _ hd=>hqA (hap.dst p (hmemA p hp) q hqL t hd ht ▸ hp))] at h0
     rw [(QaB ops dp t done st hapD).2 (fun p hp _ hd=>hqD (hap.dst p (hsub p hp) q hqL t hd ht ▸ hp))]
     exact h0) (fun hg=>⟨congrArg (fun x=>x.1) (gEq (.inl (hq2 hg))),congrArg (fun x=>x.2.1) (gEq (.inl (hq2 hg)))⟩) (fun hd=>congrArg Prod.snd (dEq (.inr (hqdp hd)))) M a w h
   refine ⟨hrun,fun M' a' w' h'=>?_⟩
   have e1:(done++[q]).map (·.1)=done.map (·.1)++[q.1]:=by simp
   have e2:((done++[q]).map (·.1)).foldl (fun l i=>l.setIfInBounds i true) listed=((done.map (·.1)).foldl (fun l i=>l.setIfInBounds i true) listed).setIfInBounds q.1 true:=by rw [e1,List.foldl_append];rfl
   have e3:Ei ops dp st (done++[q])=q.2.app dp (GF ops q.1) (Ei ops dp st done):=by unfold Ei;rw [List.foldl_append];rfl
   have hnext:=ih (done++[q]) (by rw [List.length_append,List.length_singleton];omega) (by
     rw [e1]
     exact List.nodup_append.2 ⟨hnd,List.nodup_cons.2 ⟨by simp,List.nodup_nil⟩,fun x hx y hy=>by rw [List.mem_singleton.1 hy];exact fun e=>hjD (e ▸ hx)⟩)
    (fun p hp=>by
     rcases List.mem_append.1 hp with hp | hp
     ·exact hsub p hp
     ·rw [List.mem_singleton.1 hp];exact hqL)
    (fun p hp k hk=>by
     rw [e2,QnQ (by rw [Qep];exact (Slt q.1 hjS).2)]
     by_cases hkq:k=q.1
     ·rw [if_pos hkq]
     ·rw [if_neg hkq]
      rcases List.mem_append.1 hp with hp | hp
      ·exact hcl p hp k hk
      ·rw [List.mem_singleton.1 hp] at hk;exact hj3 k hk)
    (by
     rw [List.filter_append,List.filter_cons]
     cases hgq:ZC ops q.1 with
     | true =>
      obtain ⟨_,rest,hr⟩:=eGr hgq
      exact ⟨rest,by rw [hr];simp⟩
     | false =>
      obtain ⟨rest,hr⟩:=hgp
      exact ⟨rest,by rw [hr];simp⟩)
    M' a' w' f' (by rw [e3];exact h') (by rw [e2];have:=hcount _ hj;omega)
   rw [e2] at hnext
   exact hnext
  by_cases hpend:∃ p∈L,Qmo ops listed p.1=true∧p.1∈Region.ready .any ops ((done.map (·.1)).foldl (fun l i=>l.setIfInBounds i true) listed)
  ·obtain ⟨p,hpL,htk,hpr⟩:=hpend
   obtain ⟨⟨_,hy⟩,hnx⟩:=each p hpL hpr
   have htk1:=htk
   unfold Qmo at htk1
   rw [Bool.and_eq_true] at htk1
   have htk1:=htk1.1
   obtain ⟨oi,u,ho,hyi,hrel⟩:=hy (by
    cases ho:ops[p.1]? with
    | none=>rw [ho] at htk1;cases htk1
    | some o=>rw [ho] at htk1;exact htk1)
   refine wpAny_take ho hsel (QAg htk (fun j hj=>by
    rw [hget]
    by_cases hm:j∈done.map (·.1)
    ·rw [if_pos hm]
    ·rw [if_neg hm];exact hj) (Qap.1 hpr).2.2) (by simpa using hpr) (fun c a w hq=>absurd hq (hQp c _ w)) hyi (hnx M (a.put oi.dst u) w hrel)
  refine ⟨(fun e=>by rw [e] at hready0;cases hready0),fun j hj=>?_⟩
  obtain ⟨hj1,hj2,hj3⟩:=Qap.1 hj
  have hjD:j∉done.map (·.1):=fun hm=>by rw [hget,if_pos hm] at hj2;cases hj2
  have hjl:listed.getD j true=false:=by rw [hget,if_neg hjD] at hj2;exact hj2
  have hjS:j∈S:=by
   have hw:=hwait j (QAc.2 ⟨hj1,hjl⟩)
   have viaClos:Qxk ops listed S j=true→False:=by
    intro hw
    unfold Qxk at hw
    simp only [List.all_eq_true] at hw
    refine hnot fun i hi=>inS i hi ?_
    refine QwC (D:=fun i=>((done.map (·.1)).foldl (fun l i=>l.setIfInBounds i true) listed).getD i false=true) (S:=S) ?_ ?_ ?_ S.length _ ?_ i (YR.1 (hw i hi))
    ·intro p hp
     rw [hget]
     by_cases hm:p∈done.map (·.1)
     ·rw [if_pos hm]
     ·rw [if_neg hm];exact hp
    ·intro i hi hDi
     obtain ⟨p,hp,rfl⟩:=List.mem_map.1 (inS i hi hDi)
     exact hcl p hp
    ·intro i hi htk hpre
     by_cases hm:i∈done.map (·.1)
     ·rw [hget,if_pos hm]
     ·exfalso
      obtain ⟨p,hp,rfl⟩:=ofS i hi
      refine hpend ⟨p,hp,htk,Qap.2 ⟨(Slt _ hi).1,?_,hpre⟩⟩
      rw [hget,if_neg hm]
      exact (hS _ hi).1.1.2
    ·intro i hi
     obtain ⟨h1,h2⟩:=List.mem_filter.1 hi
     exact ⟨h1,hj3 i (YR.1 h2)⟩
   rcases hw with ((hw | hw) | hw) | hw
   ·exact YR.1 hw
   ·exfalso
    rw [List.all_eq_false] at hw
    obtain ⟨k,hk,hk2⟩:=hw
    have:=hj3 k hk
    rw [hget] at this
    apply hk2
    by_cases hm:k∈done.map (·.1)
    ·rw [Bool.or_eq_true];exact .inr (YR.2 (hDS k hm))
    ·rw [if_neg hm] at this
     rw [Bool.or_eq_true];exact .inl this
   ·exfalso
    refine hnot fun i hi=>inS i hi ?_
    refine Quy (D:=fun i=>((done.map (·.1)).foldl (fun l i=>l.setIfInBounds i true) listed).getD i false=true) hj3 S hw ?_ i hi
    intro i hi hDi
    obtain ⟨p,hp,rfl⟩:=List.mem_map.1 (inS i hi hDi)
    exact hcl p hp
   ·exact (viaClos hw).elim
  obtain ⟨q,hqL,rfl⟩:=ofS j hjS
  obtain ⟨⟨hw,_⟩,hnx⟩:=each q hqL hj
  exact wpOp_mono (fun a' w' ⟨M',h'⟩=>hnx M' a' w' h') hw
theorem Qy9 (H:CtxOk P w0.gl CF root) (HI:Quw P base w0 CF root) {dp nn:Nat} {path:List Nat} {ops:Array Oper} {Q:Exit→Act→World→Prop} {K:Nat→Z9 R} {r:R} {here i:Nat} {o:Oper} (hoi:ops[i]? = some o) (hsub:∀ m x,x∈Qr2 (CF m) dp nn path ops.toList here [o] (K m)→x∈root m) (m:Nat) (st:St) (M:Me) (a:Act) (w:World)
  (hs:QdQ (CF m) dp nn path ops.toList here [o] (K m) st=some r) (h:RelA P base w0 dp nn st θ M a w):wpOp P ops Q i (Fam P base w0 dp nn θ m K r) a w:=by
 have hsub1:∀ g,Vq (CF 0).I (here::path)=some g→∀ m x,x∈(CF m).lab dp (here::path) g (fun v st=>Qqu v st fun v st=>K m (st.put dp o.dst v))→x∈root m:=by
  intro g hg m x hx
  refine hsub m x ?_
  simp only [Qr2]
  rw [H.I_eq m 0,hg]
  exact List.mem_append.2 (.inl hx)
 have go:∀ (st:St) (M:Me),RelA P base w0 dp nn st θ M a w→QfD nn o=true→Jw (CF m) dp path here o st (K m)=some r→o.wp P a w (Fam P base w0 dp nn θ m K r) Q:=by
  intro st M h hd hs
  cases hc:Ef o with
  | true=>exact QsA H HI hsub1 h hd hc hs Q
  | false=>exact Oper.wp_mono (fun a w hg=>⟨m,Nat.le_refl _,hg⟩) (QmE (CF m) (H.P_eq m) h hd hc hs Q)
 simp only [QdQ] at hs
 obtain ⟨hd,hs2⟩:=Qn hs
 clear hs
 unfold wpOp
 rw [hoi]
 simp only
 split at hs2
 ·rename_i hg
  have hw:Region.wanted o (yielded ops a.tmps)=true:=by simp [Region.wanted,hg]
  rw [if_pos hw]
  exact .inl (go st M h hd hs2)
 ·rename_i j want hg
  split at hs2
  case h_1=>cases hs2
  rename_i t hdst
  have hskip:∀ st:St,RelA P base w0 dp nn st θ M a w→K m (st.put dp o.dst .un)=some r→Fam P base w0 dp nn θ m K r (a.put o.dst undef) w:=by
   intro st h hs
   exact ⟨m,Nat.le_refl _,_,M,h.put (YQ hd) .un rfl,hs⟩
  split at hs2
  case h_3=>cases hs2
  case h_2 =>
   rename_i hun
   have hwant:Region.wanted o (yielded ops a.tmps)=false:=by simp [Region.wanted,hg,QsB h hdst hun]
   rw [if_neg (by rw [hwant];decide)]
   exact hskip _ h hs2
  rename_i bv hbv
  obtain ⟨hy,hset⟩:=Qk1 h hdst hbv
  have hwant:Region.wanted o (yielded ops a.tmps)=(some bv == some want):=by simp [Region.wanted,hg,hy]
  cases bv with
  | true =>
   cases want with
   | true =>
    rw [if_pos (by rw [hwant];rfl)]
    exact .inl (go _ M hset hd hs2)
   | false =>
    rw [if_neg (by rw [hwant];decide)]
    exact hskip _ hset hs2
  | false =>
   cases want with
   | true =>
    rw [if_neg (by rw [hwant];decide)]
    exact hskip _ hset hs2
   | false =>
    rw [if_pos (by rw [hwant];rfl)]
    exact .inl (go _ M hset hd hs2)
theorem QsH {r:R}:∀ {l:List (Option R)},Qve l=some r→∀ x∈l,x=some r
 | [],h,_,_=>by cases h
 | [x],h,y,hy=>by rw [List.mem_singleton.1 hy];exact h
 | x::y::l,h,z,hz=>by
  obtain ⟨h1,h2⟩:=Qph (h:QF x (Qve (y::l))=some r)
  rcases List.mem_cons.1 hz with rfl | hz
  ·exact h1
  ·exact QsH h2 z hz
theorem QxI (H:CtxOk P w0.gl CF root) (HI:Quw P base w0 CF root) {dp nn id:Nat} {path:List Nat} {ops:Array Oper} {K:Nat→Z9 R} {r:R} {N:Nat} {Q:Exit→Act→World→Prop} (hsel:Region.noSelect ops=true) (hQp:∀ c a w,¬ Q (.panic c) a w) (hQ:∀ a w,Fam P base w0 dp nn θ N K r a w→Q .normal a w) :
  ∀ (n:Nat) (listed:Array Bool),(∀ m x,x∈Qvf (CF m) dp nn path id ops n listed (K m)→x∈root m)→∀ (m:Nat) (st:St) (M:Me) (a:Act) (w:World),m≤N→Qq6 (CF m) dp nn path id ops n listed (K m) st=some r→RelA P base w0 dp nn st θ M a w→listed.size=ops.size→∀ fuel,unl ops listed≤fuel →
   wpAny P .any ops Q fuel listed a w:=by
 have hdone:∀ {listed:Array Bool} {a:Act} {w:World},Region.ready .any ops listed=[]→Q .normal a w→∀ fuel,wpAny P .any ops Q fuel listed a w:=by
  intro listed a w hr h fuel
  cases fuel with
  | zero=>exact ⟨hr,h⟩
  | succ f=>exact ⟨fun _=>h,by rw [hr];simp⟩
 intro n
 induction n with
 | zero =>
  intro listed _ m st M a w hN hs h hsz fuel hf
  simp only [Qq6] at hs
  obtain ⟨h0,hs⟩:=Qn hs
  exact hdone (by simpa using h0) (hQ a w ⟨m,hN,_,_,h,hs⟩) _
 | succ n ih =>
  intro listed hsub m st M a w hN hs h hsz fuel hf
  simp only [Qq6] at hs
  have hIm:∀ m,(CF m).I=(CF 0).I:=fun m=>H.I_eq m 0
  cases h0:(Region.ready .any ops listed).isEmpty with
  | true =>
   rw [h0] at hs
   exact hdone (by simpa using h0) (hQ a w ⟨m,hN,_,_,h,hs⟩) _
  | false =>
   rw [h0] at hs
   simp only [cond_false] at hs
   rw [H.P_eq m,hIm m] at hs
   cases hok:QgA P (CF 0).I path id ops listed (Qjn P (CF 0).I path id ops listed) with
   | true =>
    rw [hok] at hs
    simp only [cond_true] at hs
    have hsub':∀ m x,x∈Qvf (CF m) dp nn path id ops n ((Qjn P (CF 0).I path id ops listed).foldl (fun l i=>l.setIfInBounds i true) listed) (K m)→x∈root m:=by
     intro m x hx
     refine hsub m x ?_
     simp only [Qvf]
     rw [h0,H.P_eq m,hIm m]
     simp only [cond_false]
     rw [hok]
     exact hx
    have hpl:∀ i∈Qjn P (CF 0).I path id ops listed,QfE P (CF m).I path id ops i=true:=by
     intro i hi
     have h1:=hok
     unfold QgA at h1
     simp only [Bool.and_eq_true,List.all_eq_true] at h1
     rw [hIm m]
     exact (h1.1.1.2 i hi).1.1.1
    obtain ⟨L,h1,h2,h3⟩:=QwB (θ:=θ) (base:=base) (w0:=w0) (Q:=Q) H m _ st (fun i hi=>⟨hpl i hi,fun hg=>by rw [Bool.not_eq_false',List.any_eq_true];exact ⟨i,hi,hg⟩⟩) hs
    rw [hIm m] at h3
    exact QvG hok hsel hQp h1 h3 (fun M a w f h hf=>ih _ hsub' m _ M a w hN h2 h (by rw [Qep];exact hsz) f hf) L.length [] (by simp) List.nodup_nil (fun p hp=>by cases hp) (fun p hp=>by cases hp) ⟨_,rfl⟩ M a w fuel h hf
   | false =>
    rw [hok] at hs
    simp only [cond_false] at hs
    have hgo:∀ i∈Region.ready .any ops listed,(∃ o,ops[i]? = some o∧QdQ (CF m) dp nn path ops.toList (1000*id+i) [o] (Qq6 (CF m) dp nn path id ops n (listed.setIfInBounds i true) (K m)) st=some r)∧∀ m x o,ops[i]? = some o→x∈Qr2 (CF m) dp nn path ops.toList (1000*id+i) [o] (Qq6 (CF m) dp nn path id ops n (listed.setIfInBounds i true) (K m))++Qvf (CF m) dp nn path id ops n (listed.setIfInBounds i true) (K m)→x∈root m:=by
     intro i hi
     constructor
     ·split at hs
      ·rename_i i' hready
       rw [hready,List.mem_singleton] at hi
       subst hi
       split at hs
       case h_2=>cases hs
       rename_i o ho
       exact ⟨o,ho,hs⟩
      ·have:=QsH hs _ (List.mem_map_of_mem hi)
       split at this
       case h_2=>cases this
       rename_i o ho
       exact ⟨o,ho,this⟩
     ·intro m x o ho hx
      refine hsub m x ?_
      simp only [Qvf]
      rw [h0,H.P_eq m,hIm m]
      simp only [cond_false]
      rw [hok]
      simp only [cond_false]
      split
      ·rename_i i' hready
       rw [hready,List.mem_singleton] at hi
       subst hi
       rw [ho]
       exact hx
      ·refine List.mem_flatMap.2 ⟨i,hi,?_⟩
       rw [ho]
       exact hx
    obtain ⟨fuel,rfl⟩:∃ f,fuel=f+1:=by
     obtain ⟨i,hi⟩:∃ i,i∈Region.ready .any ops listed:=by
      cases hr:Region.ready .any ops listed with
      | nil=>rw [hr] at h0;cases h0
      | cons i l=>exact ⟨i,List.mem_cons_self⟩
     obtain ⟨r1,r2,_⟩:=Qap.1 hi
     have:=QvF r1 hsz r2
     exact ⟨fuel - 1,by omega⟩
    refine ⟨(fun e=>by rw [e] at h0;cases h0),fun k hk=>?_⟩
    obtain ⟨⟨o,ho,hs1⟩,hlab⟩:=hgo k hk
    have hcount:unl ops (listed.setIfInBounds k true)+1≤unl ops listed:=by
     obtain ⟨r1,r2,_⟩:=Qap.1 hk
     exact QvF r1 hsz r2
    have hone:=Qy9 (Q:=Q) (θ:=θ) (K:=fun m=>Qq6 (CF m) dp nn path id ops n (listed.setIfInBounds k true) (K m)) H HI ho (fun m x hx=>hlab m x o ho (List.mem_append.2 (.inl hx))) m st M a w hs1 h
    refine wpOp_mono ?_ hone
    rintro a' w' ⟨m',hm',st',M',h',hs'⟩
    exact ih _ (fun m x hx=>hlab m x o ho (List.mem_append.2 (.inr hx))) m' st' M' a' w' (Nat.le_trans hm' hN) hs' h' (by rw [Array.size_setIfInBounds];exact hsz) fuel (by omega)
end
end Go.Ab
