import Derived.Test.YtkabjoifaffddaaGreatAb16d
import Derived.ProofKit
import Derived.SizedLaws
namespace Go.Ab
open Go.ChangeShapes Go.WideShapes Go.ChangeAt Go.RowKit
def QhR (w:World):Snap:=fun a=>if a.spot=none then w.cell? a else none
theorem Qze (w:World):∀ a u,QhR w a=some u→Sees w a u:=by
 intro a u h
 unfold QhR at h
 split at h
 ·exact .of ‹_› h
 ·cases h
def wfD:(t:Ty)→t.den→Prop
 | .int k,x=>inK k x=true
 | .bool,_=>True
 | .str,x=>List.length (α:=Int) x≤140737488351232∧∀ b∈(show List Int from x),inK .u8 b=true
 | .list t,xs=>List.length (α:=t.den) xs≤maxLen∧∀ x∈(show List t.den from xs),wfD t x
 | .unit,_=>True
 | .pair a b,x=>wfD a x.1∧wfD b x.2
 | .map _ _,_=>True
 | .tree _,_=>True
def Ty.pos:Ty→Bool | .list t=>Nat.blt 0 t.cells&&t.pos | .pair a b=>a.pos&&b.pos | .map _ _=>false | .tree _=>false | _=>true
theorem QsO {α β:Type} {f:α→Option β} {a:α} {l:List α} {r:List β} (h:(a::l).mapM f=some r):∃ y ys,f a=some y∧l.mapM f=some ys∧r=y::ys:=by
 rw [List.mapM_cons] at h
 cases h1:f a with
 | none=>rw [h1] at h;cases h
 | some y =>
  cases h2:l.mapM f with
  | none=>rw [h1,h2] at h;cases h
  | some ys =>
   rw [h1,h2] at h
   exact ⟨y,ys,rfl,rfl,(Option.some.inj h).symm⟩
theorem Qyy {α β:Type} {f:α→Option β}:∀ {l:List α} {r:List β},l.mapM f=some r→r.length=l.length∧∀ (i:Nat) (x:α),l[i]? = some x→∃ y,r[i]? = some y∧f x=some y
 | [],r,h=>by
  have:r=[]:=(Option.some.inj h).symm
  subst this
  exact ⟨rfl,fun i x hx=>by simp at hx⟩
 | a::l,r,h=>by
  obtain ⟨y,ys,h1,h2,rfl⟩:=QsO h
  obtain ⟨k1,k2⟩:=Qyy h2
  refine ⟨by simp [k1],fun i x hx=>?_⟩
  cases i with
  | zero=>simp only [List.getElem?_cons_zero,Option.some.injEq] at hx;subst hx;exact ⟨y,rfl,h1⟩
  | succ i=>exact k2 i x (by simpa using hx)
theorem QuB {k:IntKind} {n:Int} (h:(Lit.int k n).wf=true):inK k n=true:=by
 simpa [Lit.wf,inK] using h
theorem cells?_at {w:World} {a:Addr} {n:Nat} {es:List Value} (h:w.cells? 0 a n=some es):es.length=n∧∀ (j:Nat) (u:Value),es[j]? = some u→w.cell? (a.add j)=some u:=by
 unfold World.cells? at h
 rw [if_pos (Nat.zero_le _)] at h
 obtain ⟨h1,h2⟩:=Qyy h
 rw [List.length_range] at h1
 refine ⟨h1,fun j u hu=>?_⟩
 have hj:j<n:=by rw [← h1];exact (List.getElem?_eq_some_iff.1 hu).1
 obtain ⟨y,k1,k2⟩:=h2 j j (by simp [hj])
 rw [hu] at k1
 cases k1
 exact k2
theorem all_append {α:Type} {p:α→Bool} {a b:List α} (h:(a++b).all p=true):a.all p=true∧b.all p=true:=by
 rw [List.all_append,Bool.and_eq_true] at h
 exact h
theorem Qzf (s:ByteArray):∀ b∈ZE s,inK .u8 b=true:=by
 intro b hb
 obtain ⟨c,_,rfl⟩:=List.mem_map.1 hb
 have:=c.toNat_lt
 rw [VZ,Qmr,Qms]
 omega
section
variable {H:Type} {enc:TypeId × Value→H} {P:Program} {w:World} {spare:Nat→Bool} {held:Bool}
abbrev QsP (P:Program) (t:TypeId) (d:DataW H):Prop:=(d.weights P t).all (·≤reachBytes)=true
theorem QAj {α:Type} {Q:Nat→α→Prop}:∀ (n:Nat),(∀ i,i<n→∃ x,Q i x)→∃ xs:List α,xs.length=n∧∀ (i:Nat) (x:α),xs[i]? = some x→Q i x
 | 0,_=>⟨[],rfl,fun i x hx=>by simp at hx⟩
 | n+1,h=>by
  obtain ⟨xs,hl,hx⟩:=QAj n fun i hi=>h i (by omega)
  obtain ⟨y,hy⟩:=h n (by omega)
  refine ⟨xs++[y],by simp [hl],fun i x hi=>?_⟩
  by_cases hin:i<n
  ·rw [List.getElem?_append_left (by omega)] at hi
   exact hx i x hi
  ·rw [List.getElem?_append_right (by omega)] at hi
   have hlt:=(List.getElem?_eq_some_iff.1 hi).1
   have e:i=n:=by simp only [List.length_singleton] at hlt;omega
   subst e
   rw [hl,Nat.sub_self] at hi
   simp only [List.getElem?_cons_zero,Option.some.injEq] at hi
   subst hi
   exact hy
theorem QlS {e:TypeId}:∀ {l:List (DataW H)},(DataW.weightsAll P e l).all (·≤reachBytes)=true→∀ (i:Nat) (d:DataW H),l[i]? = some d→QsP P e d
 | [],_,i,d,h=>by simp at h
 | a::l,hw,i,d,h=>by
  obtain ⟨h1,h2⟩:=all_append hw
  cases i with
  | zero=>simp only [List.getElem?_cons_zero,Option.some.injEq] at h;subst h;exact h1
  | succ i=>exact QlS h2 i d (by simpa using h)
theorem QmK {n fuel:Nat} {cs:List Value} (ih:∀ {t:TypeId} {cs:List Value} {d:DataW H} {ps:List MemPlace} {ty:Ty},DataW.trod enc P w 0 spare held fuel t cs=some (d,ps)→Xz P n t=some ty→ty.pos=true→QsP P t d→∃ x:ty.den,RelD (QhR w) ty x cs∧wfD ty x) :
  ∀ (l:List Field) (off:Nat) {ty:Ty} {xs:List (DataW H × List MemPlace)},J2 (Xz P n) off l=some ty→ty.pos=true→xs.length=l.length→(∀ (i:Nat) (f:Field),l[i]? = some f→DataW.trod enc P w 0 spare held fuel f.type ((cs.drop f.offset).take (P.cellsOf f.type))=xs[i]?) →
   (DataW.weightsEach P (l.map (·.type)) (xs.map (·.1))).all (·≤reachBytes)=true→∃ x:ty.den,RelD (QhR w) ty x ((cs.drop off).take ty.cells)∧wfD ty x
 | [],off,ty,xs,h,_,_,_,_=>by
  simp only [J2,Option.some.injEq] at h
  subst h
  refine ⟨(),?_,trivial⟩
  show (cs.drop off).take 0=[]
  simp
 | [f],off,ty,[],h,hp,hl,hm,hw=>by cases hl
 | [f],off,ty,y::ys,h,hp,hl,hm,hw=>by
  simp only [J2] at h
  split at h
  case isFalse=>cases h
  rename_i ho
  have h1:=hm 0 f rfl
  have hw1:=(all_append hw).1
  obtain ⟨x,hx,hwf⟩:=ih (d:=y.1) (ps:=y.2) h1 h hp hw1
  obtain ⟨_,_,_,hc,_⟩:=JP h
  rw [ho,hc] at hx
  exact ⟨x,hx,hwf⟩
 | f::g::fs,off,ty,[],h,hp,hl,hm,hw=>by cases hl
 | f::g::fs,off,ty,y::ys,h,hp,hl,hm,hw=>by
  simp only [J2] at h
  split at h
  case isFalse=>cases h
  rename_i ho
  cases h1:Xz P n f.type with
  | none=>rw [h1] at h;cases h
  | some a =>
   rw [h1] at h
   simp only [Option.bind_some] at h
   cases h2:J2 (Xz P n) (off+a.cells) (g::fs) with
   | none=>rw [h2] at h;cases h
   | some b =>
    rw [h2] at h
    simp only [Option.map_some,Option.some.injEq] at h
    subst h
    simp only [Ty.pos,Bool.and_eq_true] at hp
    have k1:=hm 0 f rfl
    obtain ⟨hw1,hw2⟩:=all_append hw
    obtain ⟨x,hx,hwf⟩:=ih (d:=y.1) (ps:=y.2) k1 h1 hp.1 hw1
    obtain ⟨z,hz,hwf2⟩:=QmK ih (g::fs) _ h2 hp.2 (by simpa using hl) (fun i f hf=>hm (i+1) f hf) hw2
    obtain ⟨_,_,_,hc,_⟩:=JP h1
    rw [ho,hc] at hx
    refine ⟨(x,z),⟨_,_,?_,hx,hz⟩,hwf,hwf2⟩
    rw [show (Ty.pair a b).cells=a.cells+b.cells from rfl,List.take_add,List.drop_drop]
theorem QBR (a:Addr) (i n j:Nat):(a.add (i*n)).add j=a.add (i*n+j):=by
 unfold Addr.add
 by_cases h1:i*n=0
 ·simp [h1]
 ·by_cases h2:j=0
  ·simp [h1,h2]
  ·simp [h1,h2,Nat.add_assoc]
theorem QvI {a:Addr} {u:Value} (h:w.cell? a=some u):a.spot=none:=by
 unfold World.cell? at h
 split at h
 ·split at h
  ·cases h
  ·rename_i h1;simpa using h1
 ·cases h
theorem QnT:∀ (fuel:Nat) {n:Nat} {t:TypeId} {cs:List Value} {d:DataW H} {ps:List MemPlace} {ty:Ty},DataW.trod enc P w 0 spare held fuel t cs=some (d,ps)→Xz P n t=some ty→ty.pos=true→QsP P t d →
  ∃ x:ty.den,RelD (QhR w) ty x cs∧wfD ty x
 | 0,_,_,_,_,_,_,h,_,_,_=>by simp [DataW.trod] at h
 | fuel+1,n,t,cs,d,ps,ty,h,hty,hp,hw=>by
  obtain ⟨m,_,hat,hcells,_⟩:=JP hty
  cases hat with
  | bool hu =>
   obtain ⟨b,rfl,_⟩:=DataW.trod_bool hu h
   exact ⟨b,rfl,trivial⟩
  | int k hu =>
   obtain ⟨n',rfl,_,hk⟩:=DataW.trod_int hu h
   exact ⟨n',⟨rfl,QuB hk⟩,QuB hk⟩
  | str hu =>
   obtain ⟨s,rfl,hd,_⟩:=DataW.trod_string hu h
   cases hd
   have hl:s.size≤140737488351232:=by
    have:=hw
    simp only [QsP,DataW.weights,reachBytes,List.all_cons,List.all_nil,Bool.and_true,Array.length_toList] at this
    exact of_decide_eq_true this
   exact ⟨ZE s,⟨s,rfl,rfl,by omega⟩,by rw [Uj];exact hl,Qzf s⟩
  | list e ty' hu he =>
   simp only [Ty.pos,Bool.and_eq_true] at hp
   have hpos:0<ty'.cells:=Nat.le_of_ble_eq_true hp.1
   rcases DataW.trod_slice hu h with ⟨rfl,_⟩ | ⟨a,len,cap,elems,rest,f',hf,rfl,hd,_,hlc,hcm,hel,hat,_⟩
   ·exact ⟨[],⟨none,0,rfl,Nat.le_refl _,Nat.zero_le _,fun _=>rfl,fun b hb=>by cases hb⟩,Nat.zero_le _,fun x hx=>by cases hx⟩
   ·cases hf
    cases hd
    have hw2:(DataW.weightsAll P e (elems.map (·.1))).all (·≤reachBytes)=true:=by
     have:=hw
     simp only [QsP,DataW.weights,hu] at this
     exact (all_append (all_append (a:=[_]) this).2).1
    obtain ⟨_,_,_,hce,_⟩:=JP he
    have each:∀ i,i<len→∃ x:ty'.den,(∃ es,RelD (QhR w) ty' x es∧es.length=ty'.cells∧∀ (j:Nat) (u:Value),es[j]? = some u→w.cell? (a.add (i*ty'.cells+j))=some u)∧wfD ty' x:=by
     intro i hi
     have h1:=hat i hi
     have hlt:i<elems.length:=by omega
     rw [List.getElem?_eq_getElem hlt] at h1
     obtain ⟨es,hes,htr⟩:=Option.bind_eq_some_iff.1 h1
     obtain ⟨hl,hc⟩:=cells?_at hes
     obtain ⟨x,hx,hwf⟩:=QnT fuel (d:=elems[i].1) (ps:=elems[i].2) htr he hp.2 (QlS hw2 i _ (by simp [List.getElem?_eq_getElem hlt]))
     refine ⟨x,⟨es,hx,hx.len,fun j u hu=>?_⟩,hwf⟩
     have:=hc j u hu
     rwa [QBR,hce] at this
    obtain ⟨xs,hxl,hxs⟩:=QAj len each
    have hlen:List.length (α:=ty'.den) xs=len:=hxl
    have hspot:∀ i,i<len→a.spot=none:=by
     intro i hi
     obtain ⟨x0,⟨es,_,h2,h3⟩,_⟩:=each 0 (by omega)
     have:=h3 0 es[0] (List.getElem?_eq_getElem (by omega))
     rw [Nat.zero_mul] at this
     exact QvI (a:=a) this
    have hrel:RelD (QhR w) (.list ty') xs [.slice (some a) len cap]:=by
     refine ⟨some a,cap,by rw [hlen],by rw [hlen];exact hlc,hcm,fun e=>(by cases e),fun b hb i x hx=>?_⟩
     cases hb
     obtain ⟨⟨es,h1,h2,h3⟩,_⟩:=hxs i x hx
     have hs:=hspot i (by rw [← hlen];exact (List.getElem?_eq_some_iff.1 hx).1)
     refine ⟨hs,es,h1,fun j u hu=>?_⟩
     have:=h3 j u hu
     obtain ⟨g,o,sp⟩:=a
     cases hs
     rw [Addr.add_lit] at this
     unfold QhR
     rw [if_pos rfl]
     show w.cell? ⟨g,o+i*ty'.cells+j,none⟩=_
     rw [Nat.add_assoc]
     exact this
    refine ⟨xs,hrel,?_,?_⟩
    ·exact Nat.le_trans (by rw [hlen];exact hlc) hcm
    ·intro x hx
     obtain ⟨i,hi⟩:=List.getElem?_of_mem hx
     exact (hxs i x hi).2
  | map k e a b hu _ _=>cases hp
  | tree fs f a _ _ _ _ _=>cases hp
  | one fs f ty' hu hfs h0 he =>
   obtain ⟨xs,n',hn,hd,hl,hxl,hall⟩:=DataW.trod_struct hu h
   cases hn
   cases hd
   have hw2:(DataW.weightsEach P (fs.toList.map (·.type)) (xs.map (·.1))).all (·≤reachBytes)=true:=by
    have:=hw
    simpa only [QsP,DataW.weights,hu] using this
   simp only [Ty.pos,Bool.and_true] at hp
   obtain ⟨x,hx,hwf⟩:=QmK (cs:=cs) (QnT fuel) [f] 0 (ty:=ty') (xs:=xs) (by simp only [J2,h0];exact he) hp (by rw [hxl,← Array.length_toList,hfs]) (fun i f' hf=>hall i f' (by rw [← Array.getElem?_toList,hfs];exact hf)) (by rw [← hfs];exact hw2)
   refine ⟨(x,()),⟨_,[],?_,hx,rfl⟩,hwf,trivial⟩
   have hc:cs.length=ty'.cells:=by rw [hl,hcells];rfl
   rw [List.append_nil,List.drop_zero,← hc,List.take_length]
  | st fs ty' hu hne he =>
   obtain ⟨xs,n',hn,hd,hl,hxl,hall⟩:=DataW.trod_struct hu h
   cases hn
   cases hd
   have hw2:(DataW.weightsEach P (fs.toList.map (·.type)) (xs.map (·.1))).all (·≤reachBytes)=true:=by
    have:=hw
    simpa only [QsP,DataW.weights,hu] using this
   obtain ⟨x,hx,hwf⟩:=QmK (cs:=cs) (QnT fuel) fs.toList 0 (ty:=ty) (xs:=xs) he hp (by rw [hxl,Array.length_toList]) (fun i f' hf=>hall i f' (by rw [← Array.getElem?_toList];exact hf)) hw2
   refine ⟨x,?_,hwf⟩
   have hc:cs.length=ty.cells:=by rw [hl,hcells]
   rw [List.drop_zero,← hc,List.take_length] at hx
   exact hx
end
end Go.Ab
namespace Go.Ab
open Go.ChangeShapes Go.WideShapes Go.ChangeAt Go.RowKit
@[reducible] def HJ:List Ty→Type
 | []=>Unit
 | t::ts=>t.den × HJ ts
def Jh:(ts:List Ty)→HJ ts→List V | [],_=>[] | t::ts,x=>JO t x.1::Jh ts x.2
def wfA:(ts:List Ty)→HJ ts→Prop | [],_=>True | t::ts,x=>wfD t x.1∧wfA ts x.2
def QwH (P:Program):List TypeId→Option (List Ty)
 | []=>some []
 | t::ts=>match Xz P JS t,QwH P ts with
  | some a,some r=>bif a.pos then some (a::r) else none
  | _,_=>none
theorem QgI (n:Nat):∀ (ts:List Ty) (xs:HJ ts),V.le.leL n (Jh ts xs)=true
 | [],_=>rfl
 | t::ts,x=>by
  simp only [Jh,V.le.leL,Bool.and_eq_true]
  exact ⟨WR n t x.1,QgI n ts x.2⟩
section
variable {H:Type} {enc:TypeId × Value→H} {P:Program} {w:World}
theorem QA0 {n:Nat} {t:TypeId} {ty:Ty} (hp:ty.pos=true) (hty:Xz P n t=some ty) {base:Nat} {v:Value} (hv:Value.okWide P w .any base t v) {F:Snap} {x:ty.den} (h:RelD F ty x v.cells.toList):RelU F ty x v:=by
 obtain ⟨m,_,hat,_,_⟩:=JP hty
 cases hat with
 | bool hu=>obtain ⟨b,rfl⟩:=okWide_bool hu hv;exact h
 | int k hu=>obtain ⟨b,rfl⟩:=okWide_int hu hv;exact h
 | str hu=>obtain ⟨b,rfl⟩:=okWide_string hu hv;exact h
 | list e ty' hu he=>obtain ⟨a,l,c,rfl⟩:=okWide_slice hu hv;exact h
 | map k e a b hu _ _=>cases hp
 | tree fs f a _ _ _ _ _=>cases hp
 | one fs f ty' hu hfs h0 he =>
  obtain ⟨cs,rfl,_⟩:=okWide_struct hu hv
  exact ⟨cs,rfl,h⟩
 | st fs ty' hu hne he =>
  obtain ⟨cs,rfl,_⟩:=okWide_struct hu hv
  have hs:ty.scalar=false:=by
   have:=Qjr (P:=P) (rec:=Xz P m) (t:=t) (.st fs ty hu hne he)
   unfold Qc6 at this
   rw [hu] at this
   simpa using this
  unfold RelU
  rw [hs]
  exact ⟨cs,rfl,h⟩
theorem QqH {spare:Nat→Bool} {held:Bool} {base:Nat}:∀ {ts:List TypeId} {vs:List Value} {ds:List (DataW H)} {ps:List MemPlace} {tys:List Ty},DataW.TrodAll enc P w 0 spare held ts vs ds ps →
  (∀ (j:Nat) t v,ts[j]? = some t→vs[j]? = some v→Value.okWide P w .any base t v)→QwH P ts=some tys→(DataW.weightsEach P ts ds).all (·≤reachBytes)=true →
  ∃ xs:HJ tys,wfA tys xs∧(Jh tys xs).length=vs.length∧∀ (i:Nat) c u,(Jh tys xs)[i]? = some c→vs[i]? = some u→∀ M:Me,M.F=QhR w→RelV M c u
 | [],vs,ds,ps,tys,h,hv,ht,hw=>by
  obtain ⟨rfl,_,_⟩:=trodAll_nil h
  simp only [QwH,Option.some.injEq] at ht
  subst ht
  exact ⟨(),trivial,rfl,fun i c u hc=>by simp [Jh] at hc⟩
 | t::ts,vs,ds,ps,tys,h,hv,ht,hw=>by
  obtain ⟨v,vs',d,ds',p,q,rfl,rfl,_,⟨fuel,h1⟩,h2⟩:=trodAll_cons h
  simp only [QwH] at ht
  split at ht
  case h_2=>cases ht
  rename_i a r ha hr
  obtain ⟨hp,ht⟩:=Qn ht
  simp only [Option.some.injEq] at ht
  subst ht
  obtain ⟨w1,w2⟩:=all_append hw
  obtain ⟨x,hx,hwf⟩:=QnT fuel h1 ha hp w1
  obtain ⟨xs,k1,k2,k3⟩:=QqH h2 (fun j t v hj hv'=>hv (j+1) t v hj hv') hr w2
  have hU:=QA0 hp ha (hv 0 t v rfl rfl) hx
  refine ⟨(x,xs),⟨hwf,k1⟩,by simp [Jh,k2],fun i c u hc hu M hM=>?_⟩
  cases i with
  | zero =>
   simp only [Jh,List.getElem?_cons_zero,Option.some.injEq] at hc hu
   subst hc;subst hu
   exact Uh (by rw [hM];exact hU)
  | succ i=>exact k3 i c u (by simpa [Jh] using hc) (by simpa using hu) M hM
theorem Qgj (hl:laidOutB P=true) {W W':World} (hb:Below W.heap.size W W') (sp:Nat→Bool):∀ {ts:List TypeId} {vs:List Value} {ds:List (DataW H)} {ps:List MemPlace},(ts.all fun t=>P.readableRec t&&decide (t<P.types.size))=true →
  DataW.TrodAll enc P W 0 (fun _=>true) true ts vs ds ps→(∀ x∈ps,x.block<W.heap.size∧sp x.block=true)→DataW.TrodAll enc P W' 0 sp true ts vs ds ps
 | [],vs,ds,ps,_,h,_=>by
  obtain ⟨rfl,rfl,rfl⟩:=trodAll_nil h
  rfl
 | t::ts,vs,ds,ps,hr,h,hlt=>by
  obtain ⟨v,vs',d,ds',p,q,rfl,rfl,rfl,h1,h2⟩:=trodAll_cons h
  rw [List.all_cons,Bool.and_eq_true,Bool.and_eq_true] at hr
  refine ⟨p,q,WideElems.Trod_stays hl hr.1.1 (of_decide_eq_true hr.1.2) h1 (fun x hx=>hb.same (hlt x (List.mem_append_left _ hx)).1) (fun x hx=>(hlt x (List.mem_append_left _ hx)).2),Qgj hl hb sp hr.2 h2 (fun x hx=>hlt x (List.mem_append_right _ hx)),rfl⟩
theorem QtZ {f:Func} {s:ChangeSpec} {apart fresh handsOn again:Bool} {W W':World} {args:Array Value} {ds gs:List (DataW H)} {Zp:List MemPlace} {tb:TypeId}
  (hl:laidOutB P=true) (hread:(f.params.toList.all fun t=>P.readableRec t&&decide (t<P.types.size))=true) (hvars:s.vars=[]) (hrt:f.resultTypes=#[tb]) (htb:P.underlying tb=some .bool)
  (hW:DataW.Whole enc P f.params.toList s.vars apart W args.toList ds gs Zp) (hb:Below W.heap.size W W')
  (hs:∀ ds':List (DataW H),ds'.length=f.params.size→s.fn H ds'={ results:=[.lit (.bool true)],args:=ds' }) :
  s.post enc P f apart fresh handsOn again W args (.bool true) W':=by
 have hlt:=hW.lt
 obtain ⟨p,q,hA,hV,hpq,hfz,hnd⟩:=id hW
 rw [hvars] at hV
 obtain ⟨hg,hq⟩:=trodVars_none hV
 subst hg;subst hq
 rw [List.append_nil] at hpq
 subst hpq
 have hlen:∀ {ts:List TypeId} {vs:List Value} {ds:List (DataW H)} {ps:List MemPlace},DataW.TrodAll enc P W 0 (fun _=>true) true ts vs ds ps→ds.length=ts.length:=by
  intro ts
  induction ts with
  | nil=>intro vs ds ps h;obtain ⟨_,rfl,_⟩:=trodAll_nil h;rfl
  | cons t ts ih=>intro vs ds ps h;obtain ⟨v,vs',d,ds',p,q,rfl,rfl,rfl,h1,h2⟩:=trodAll_cons h;simp [ih h2]
 have hfn:=hs ds (by rw [hlen hA,Array.length_toList])
 have hres:∀ (b:Nat) (sp:Nat→Bool) (hd:Bool),DataW.TrodAll enc P W' b sp hd f.resultTypes.toList ((Value.bool true).resultList f.resultTypes.size) [.lit (.bool true)] []:=by
  intro b sp hd
  rw [hrt]
  exact trodAll_mk1 ⟨1,by simp [DataW.trod,htb,Value.cells]⟩
 have hcell:∀ b off,MemPlace.cell b off∈Zp→W'.frozen? ⟨b,off,none⟩=false:=by
  intro b off hp
  have hb':b<W.heap.size:=hlt _ hp
  rw [hb.frozen (p:=⟨b,off,none⟩) hb']
  exact hfz b off hp
 refine ⟨ds,[],Zp,[],Zp,[],hW,?_,?_,?_,hb.frame _,?_⟩
 ·rw [List.append_nil,hfn];exact hres _ _ _
 ·rw [List.append_nil,hfn];exact Qgj hl hb _ hread hA (fun x hx=>⟨hlt x hx,by simpa using hlt x hx⟩)
 ·rw [List.append_nil,hfn,hvars];rfl
 ·intro _
  refine ⟨?_,[.lit (.bool true)]++ds,[],Zp,⟨[]++Zp,[],?_,?_,by simp,hcell,?_⟩,fun x hx _=>hx⟩
  ·intro j t r hj hr
   rw [hrt] at hj hr
   match j,hj,hr with
   | 0,hj,hr =>
    simp [Value.resultList] at hj hr
    subst hj;subst hr
    exact okWide_bool_mk htb _
  ·exact trodAll_append (Qgj hl hb _ hread hA (fun x hx=>⟨hlt x hx,rfl⟩)) (hres _ _ _)
  ·rw [hvars];rfl
  ·intro ha
   exact hnd ha
theorem QxN {a:Assume} {C:Checked} {os:Os} {f:FuncId} {fn:Func} {s:ChangeSpec} {conds:List PathCond} {apart fresh handsOn again:Bool} (own:ownKnob C.prog.godebug=none) (started:os.Started) (noInit:C.prog.inits.idxOf? f=none) (hfn:C.prog.funcs[f]? = some fn)
  (witness:∃ (w:World) (tape:Tape) (i:Input),w.os=os∧(w.forCall tape i).Shaped C.prog∧i.vars=[]∧Input.okWide C.prog (w.forCall tape i) .any w.heap.size f i ∧
   s.pre6 enc C.prog fn conds apart (w.forCall tape i).memory i.args∧a.holds C.prog (lone (Frame.enter C.prog f i.args .normal) [] (w.forCall tape i)))
  (hl:laidOutB C.prog=true) (hread:(fn.params.toList.all fun t=>C.prog.readableRec t&&decide (t<C.prog.types.size))=true) (hvars:s.vars=[]) {tb:TypeId} (hrt:fn.resultTypes=#[tb]) (htb:C.prog.underlying tb=some .bool)
  (hs:∀ ds':List (DataW H),ds'.length=fn.params.size→s.fn H ds'={ results:=[.lit (.bool true)],args:=ds' })
  {tys:List Ty} (htys:QwH C.prog fn.params.toList=some tys) {c:Code} (hb:fn.body=some c) (hr1:fn.results.size=1) {A:List (List Nat × Ann)} {I:List (List Nat × Nat)} {con:Nat→List V→(V→Option Bool)→Option Bool} (hcon:QlR C.prog noG con)
  (hrun:∀ xs:HJ tys,wfA tys xs→∃ n,run C.prog A I con fn c (Qjo [.bool]) n (Jh tys xs)=some true) :
  ReturnsInHanded a C os f .any (s.pre6 enc C.prog fn conds apart) (s.post enc C.prog fn apart fresh handsOn again):=by
 refine returnsInHanded_of_change_sized own started noInit hfn witness ?_
 intro W base args ds gs Zp hval hW _ hwt _
 obtain ⟨p,q,hA,hV,hpq,hfz,hnd⟩:=id hW
 rw [hvars] at hV
 obtain ⟨hg,hq⟩:=trodVars_none hV
 subst hg;subst hq
 have hwt':(DataW.weightsEach C.prog fn.params.toList ds).all (·≤reachBytes)=true:=by
  have e:s.plain.varTypes C.prog=[]:=by
   have:s.plain.vars=[]:=hvars
   simp [DataSpec.varTypes,this]
  rw [e,List.append_nil,List.append_nil] at hwt
  exact hwt
 obtain ⟨xs,hwf,hlen,hrel⟩:=QqH hA (base:=base) (fun j t v hj hv=>hval j t v (by rw [← Array.getElem?_toList];exact hj) (by rw [← Array.getElem?_toList];exact hv)) htys hwt'
 obtain ⟨n,hn⟩:=hrun xs hwf
 have hcall:=QuA hfn hb hcon (tys:=[.bool]) (by rw [hr1];rfl) hn (GlobOk.none _) (Qze W) (vals:=args.toList) hlen hrel (QgI 0 tys xs)
 rw [Array.toArray_toList] at hcall
 refine hcall.mono fun e W' ⟨u,F',he,_,_,hbel,hu⟩=>⟨u,he,?_⟩
 have h0:=hu ⟨F',fun _ _=>none,fun _=>none,0,.no⟩ (Snap.le.refl _)
 cases h0 with
 | d _ _ _ hd =>
  cases hd
  exact QtZ hl hread hvars hrt htb hW hbel.toB hs
end
end Go.Ab
