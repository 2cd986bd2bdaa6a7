import Derived.Test.YtkabjoifaffddaaGreatAb21
import Derived.LaidMore
import Derived.OpenShut
import Derived.ChangeMaps3
import Derived.Stop.Joined
namespace Go.Ab
variable {R:Type}
def Ev (f:Nat→Option R) (r:R):Prop:=∃ N,∀ n,N≤n→f n=some r
theorem Ev.const {r r':R} (h:r'=r):Ev (fun _=>some r') r:=⟨0,fun _ _=>congrArg some h⟩
theorem Ev.get {f:Nat→Option R} {r:R} (h:Ev f r):∃ n,f n=some r:=let ⟨N,hN⟩:=h;⟨N,hN N (Nat.le_refl _)⟩
theorem Ev.of_eq {f g:Nat→Option R} {r:R} (h:Ev g r) (he:∀ n,f n=g n):Ev f r:=let ⟨N,hN⟩:=h;⟨N,fun n hn=>(he n).trans (hN n hn)⟩
theorem Ev.succ {f:Nat→Option R} {r:R} (h:Ev (fun n=>f (n+1)) r):Ev f r:=by
 obtain ⟨N,hN⟩:=h
 refine ⟨N+1,fun n hn=>?_⟩
 obtain ⟨m,rfl⟩:∃ m,n=m+1:=⟨n - 1,by omega⟩
 exact hN m (by omega)
theorem Ev.step {f g:Nat→Option R} {r:R} (h:Ev g r) (he:∀ n,f (n+1)=g n):Ev f r:=Ev.succ (h.of_eq he)
theorem Ev.bif {c:Bool} {f g:Nat→Option R} {r:R} (h1:c=true→Ev f r) (h2:c=false→Ev g r):Ev (fun n=>bif c then f n else g n) r:=by
 cases c
 ·exact h2 rfl
 ·exact h1 rfl
theorem Ev.pos {c:Bool} {f g:Nat→Option R} {r:R} (hc:c=true) (h1:Ev f r):Ev (fun n=>bif c then f n else g n) r:=by subst hc;exact h1
theorem Ev.neg {c:Bool} {f g:Nat→Option R} {r:R} (hc:c=false) (h1:Ev g r):Ev (fun n=>bif c then f n else g n) r:=by subst hc;exact h1
theorem GH {k len:Nat} (hl:len≤maxLen) (hk:k<len):IntKind.wrap .i64 ((k:Int)+1)=((k+1:Nat):Int):=by
 unfold maxLen at hl
 rw [Qgk (by omega)]
 omega
theorem Qzj {k len:Nat} (hl:len≤maxLen) (hk:k<len):IntKind.wrap .i64 (((k+1:Nat):Int) - 1)=(k:Int):=by
 unfold maxLen at hl
 rw [Qgk (by omega)]
 omega
theorem QsT {α:Type} {xs:List α} {d x:α} {k:Nat} (h:xs[k]? = some x):rd xs (k:Int) d=x:=by
 simp [rd,List.getD,h]
end Go.Ab
namespace Go.Ab
noncomputable section
variable {R:Type}
theorem Ev.ofNone {f:Nat→Option R} {r:R} (h:(none:Option R)=some r):Ev f r:=nomatch h
theorem Ev.ofSome {a r:R} (h:some a=some r):Ev (fun _=>some a) r:=⟨0,fun _ _=>h⟩
theorem Ev.ofBif {c:Bool} {A B:Option R} {f g:Nat→Option R} {r:R} (h:(bif c then A else B)=some r) (h1:A=some r→Ev f r) (h2:B=some r→Ev g r):Ev (fun n=>bif c then f n else g n) r:=by
 cases c
 ·exact h2 h
 ·exact h1 h
theorem Ev.ofBind {α:Type} {e:Option α} {A:α→Option R} {f:Nat→α→Option R} {r:R} (h:Option.bind e A=some r) (h1:∀ y,A y=some r→Ev (fun n=>f n y) r):Ev (fun n=>Option.bind e (f n)) r:=by
 cases e with
 | none=>cases h
 | some y=>exact h1 y h
theorem Qzk (a:Option R):QF a a=a:=by unfold QF;rw [if_pos rfl]
def QV {α:Type} (xs:List α) (r:Option R):Option R:=bif decide (xs.length≤maxLen) then r else none
theorem Qw {α:Type} {xs:List α} {r:Option R} (h:xs.length≤maxLen):QV xs r=r:=by unfold QV;rw [decide_eq_true h];rfl
theorem Ev.ofLen {α:Type} {xs:List α} {A:Option R} {f:Nat→Option R} {r:R} (h:QV xs A=some r) (h1:xs.length≤maxLen→A=some r→Ev f r):Ev f r:=by
 unfold QV at h
 cases hd:decide (xs.length≤maxLen) with
 | true=>rw [hd] at h;exact h1 (of_decide_eq_true hd) h
 | false=>rw [hd] at h;cases h
open Classical in
def QaF (f:Nat→Option R):Option R:=if h:∃ r,Ev f r then some h.choose else none
theorem Ev.uniq {f:Nat→Option R} {r r':R} (h:Ev f r) (h':Ev f r'):r=r':=by
 obtain ⟨N,hN⟩:=h
 obtain ⟨N',hN'⟩:=h'
 have h1:=hN (max N N') (by omega)
 rw [hN' (max N N') (by omega)] at h1
 exact (Option.some.inj h1).symm
theorem XD {f:Nat→Option R} {r:R} (h:Ev f r):QaF f=some r:=by
 have hx:∃ r,Ev f r:=⟨r,h⟩
 unfold QaF
 rw [dif_pos hx,hx.choose_spec.uniq h]
theorem Qk4 {f:Nat→Option R} {r:R} (h:QaF f=some r):Ev f r:=by
 unfold QaF at h
 split at h
 ·rename_i hx
  cases h
  exact hx.choose_spec
 ·cases h
theorem Qes {α:Type} {xs:List α} {k:Nat} (h:[]=xs.drop k):xs.length≤k:=List.drop_eq_nil_iff.1 h.symm
theorem ltF {n k:Nat} (h:n≤k):decide ((k:Int)<(n:Int))=false:=decide_eq_false (by omega)
theorem ltT {n k:Nat} (h:k<n):decide ((k:Int)<(n:Int))=true:=decide_eq_true (by omega)
theorem Qaq {α:Type} {xs rest:List α} {k:Nat} {e d:α} (h:e::rest=xs.drop k):k<xs.length∧rd xs (k:Int) d=e∧rest=xs.drop (k+1):=by
 have hk:k<xs.length:=by
  rcases Nat.lt_or_ge k xs.length with h1 | h1
  ·exact h1
  ·rw [List.drop_eq_nil_of_le h1] at h;cases h
 rw [List.drop_eq_getElem_cons hk] at h
 injection h with h1 h2
 exact ⟨hk,by rw [QsT (List.getElem?_eq_getElem hk)];exact h1.symm,h2⟩
theorem YS {k n:Nat} (h:k<n):inB (k:Int) n=true:=Vr.2 (by omega)
theorem Zj {α:Type} {c:Bool} {A B:Option α} {a b:α} (h1:A=some a) (h2:B=some b):(bif c then A else B)=some (bif c then a else b):=by
 cases c
 ·exact h2
 ·exact h1
end
end Go.Ab
namespace Go.Ab
open Go.ChangeShapes Go.WideShapes Go.ChangeAt Go.RowKit
section
variable {H:Type} {enc:TypeId × Value→H} {P:Program}
end
end Go.Ab
namespace Go.Ab
noncomputable section
def QwL:Nat→Nat→List Int | 0,_=>[] | f+1,n=>if n=0 then [] else QwL f (n / 10)++[48+((n % 10:Nat):Int)]
def QgN (k:Int):List Int:=if k≤0 then [109,48] else 109::QwL (k.toNat+1) k.toNat
def QaG {α:Type} (f:α→Int→Int × α):List α→Int→Int × List α | [],k=>(k,[]) | x::xs,k=>((QaG f xs (f x k).1).1,(f x k).2::(QaG f xs (f x k).1).2)
def XE:(t:Ty)→t.den→Int→Int × t.den | .int k0,_,k=>(k+1,k0.wrap k) | .bool,_,k=>(k+1,decide (Int.tmod k 3=0)) | .str,_,k=>(k+1,QgN k) | .unit,x,k=>(k,x) | .pair a b,x,k=>((XE b x.2 (XE a x.1 k).1).1,((XE a x.1 k).2,(XE b x.2 (XE a x.1 k).1).2)) | .list t,xs,k=>QaG (XE t) xs k | .map _ _,x,k=>(k,x) | .tree _,x,k=>(k,x)
def Gl:(t:Ty)→t.den→Int→Int × t.den | .pair a b,x,k=>((Gl b x.2 (Gl a x.1 k).1).1,((Gl a x.1 k).2,(Gl b x.2 (Gl a x.1 k).1).2)) | .list t,xs,k=>QaG (XE t) xs k | .int _,x,k=>(k,x) | .bool,x,k=>(k,x) | .str,x,k=>(k,x) | .unit,x,k=>(k,x) | .map _ _,x,k=>(k,x) | .tree _,x,k=>(k,x)
def Wo:(t:Ty)→t.den→Nat | .int _,_=>1 | .bool,_=>1 | .str,_=>1 | .unit,_=>0 | .pair a b,x=>Wo a x.1+Wo b x.2 | .list t,xs=>(List.map (Wo t) xs).sum | .map _ _,_=>0 | .tree _,_=>0
def HS:(t:Ty)→t.den→Nat | .pair a b,x=>HS a x.1+HS b x.2 | .list t,xs=>(List.map (Wo t) xs).sum | .int _,_=>0 | .bool,_=>0 | .str,_=>0 | .unit,_=>0 | .map _ _,_=>0 | .tree _,_=>0
def ZT:Int:=1099511627776
theorem QpD {α:Type} {f:α→Int→Int × α} {g:α→Nat} (h:∀ x k,(f x k).1=k+g x):∀ (xs:List α) (k:Int),(QaG f xs k).1=k+((xs.map g).sum:Nat)
 | [],k=>by simp [QaG]
 | x::xs,k=>by simp only [QaG,QpD h xs,h,List.map_cons,List.sum_cons];omega
theorem QbR:∀ (t:Ty) (x:t.den) (k:Int),(XE t x k).1=k+Wo t x
 | .int _,_,_=>rfl
 | .bool,_,_=>rfl
 | .str,_,_=>rfl
 | .unit,_,k=>(Int.add_zero k).symm
 | .pair a b,x,k=>by simp only [XE,Wo,QbR a,QbR b];omega
 | .list t,xs,k=>QpD (QbR t) xs k
 | .map _ _,_,k=>(Int.add_zero k).symm
 | .tree _,_,k=>(Int.add_zero k).symm
theorem WU:∀ (t:Ty) (x:t.den) (k:Int),(Gl t x k).1=k+HS t x
 | .int _,_,k=>(Int.add_zero k).symm
 | .bool,_,k=>(Int.add_zero k).symm
 | .str,_,k=>(Int.add_zero k).symm
 | .unit,_,k=>(Int.add_zero k).symm
 | .pair a b,x,k=>by simp only [Gl,HS,WU a,WU b];omega
 | .list t,xs,k=>QpD (QbR t) xs k
 | .map _ _,_,k=>(Int.add_zero k).symm
 | .tree _,_,k=>(Int.add_zero k).symm
inductive Act1 where
 | seti (off:Nat) | sety (off:Nat) | setb (off:Nat) | sets (off:Nat) | inc | sub (off:Nat) (t:Ty)
def QwM (cs:List V) (off:Nat) (v:V) (k:Int):Option (List V × Int) :=
 match cs[off]? with
 | some c=>bif c.scl then some (cs.set off v,k) else none
 | none=>none
open Classical in
def QaH:Act1→List V × Int→Option (List V × Int)
 | .seti off,(cs,k)=>QwM cs off (.d (.int .i64) k) k
 | .sety off,(cs,k)=>QwM cs off (.d (.int .u8) (IntKind.wrap .u8 k)) k
 | .setb off,(cs,k)=>QwM cs off (.d .bool (decide (Int.tmod k 3=0))) k
 | .sets off,(cs,k)=>QwM cs off (.d .str (QgN k)) k
 | .inc,(cs,k)=>if k+1≤ZT then some (cs,k+1) else none
 | .sub off t,(cs,k)=>match YN t ((cs.drop off).take t.cells) with
  | some x=>if k+HS t x≤ZT then some (YO cs off (Qm t (Gl t x k).2),(Gl t x k).1) else none
  | none=>none
def Y2:List Act1→List V × Int→Option (List V × Int) | [],s=>some s | a::l,s=>(QaH a s).bind (Y2 l)
theorem Qcq:∀ (l l':List Act1) (s:List V × Int),Y2 (l++l') s=(Y2 l s).bind (Y2 l')
 | [],l',s=>rfl
 | a::l,l',s=>by
  simp only [List.cons_append,Y2]
  cases QaH a s with
  | none=>rfl
  | some s'=>exact Qcq l l' s'
def Ty.mok:Ty→Bool | .int .i64 | .int .u8 | .bool | .str | .unit=>true | .pair a b=>a.mok&&b.mok | .list t=>t.mok | _=>false
def QjI:Ty→Nat→List Act1 | .int .i64,off=>[.seti off,.inc] | .int _,off=>[.sety off,.inc] | .bool,off=>[.setb off,.inc] | .str,off=>[.sets off,.inc] | .pair a b,off=>QjI a off++QjI b (off+a.cells) | .list t,off=>[.sub off (.list t)] | _,_=>[]
def Ty.beq (a b:Ty):Bool:=match Ty.eq? a b with
 | some _=>true
 | none=>false
theorem Ty.beq_eq {a b:Ty} (h:a.beq b=true):a=b:=by
 unfold Ty.beq at h
 split at h
 ·rename_i e _;exact e.down
 ·cases h
def QA3 (off:Nat) (t:Ty):List Act1→Option (List Act1) | .sub o t'::rest=>bif Nat.beq o off&&Ty.beq t' t then some rest else none | _=>none
def QAn:Ty→Nat→List Act1→Option (List Act1)
 | .list t,off,acts=>QA3 off (.list t) acts
 | .pair a b,off,acts=>match QA3 off (.pair a b) acts with
  | some r=>some r
  | none=>(QAn a off acts).bind (QAn b (off+a.cells))
 | .int _,_,acts=>some acts
 | .bool,_,acts=>some acts
 | .str,_,acts=>some acts
 | .unit,_,acts=>some acts
 | _,_,_=>none
theorem QuE {off:Nat} {t:Ty} {acts rest:List Act1} (h:QA3 off t acts=some rest):acts=.sub off t::rest:=by
 unfold QA3 at h
 split at h
 case h_2=>cases h
 obtain ⟨h0,h⟩:=Qn h
 simp only [Bool.and_eq_true] at h0
 rw [Nat.eq_of_beq_eq_true h0.1,Ty.beq_eq h0.2,Option.some.inj h]
theorem cast?_self (t:Ty) (x:t.den):cast? t t x=some x:=by
 obtain ⟨⟨h⟩,e⟩:=eq?_self t
 unfold cast?
 rw [e]
theorem QhU (t:Ty) (x:t.den):Gs t (.d t x)=some x:=by
 have:Gs t (.d t x)=cast? t t x:=by cases t<;>rfl
 rw [this,cast?_self]
theorem QbS:∀ (t:Ty) (x:t.den),t.dok=true→YN t (Qm t x)=some x
 | .int k,x,_=>QhU (.int k) x
 | .bool,x,_=>QhU .bool x
 | .str,x,_=>QhU .str x
 | .unit,x,_=>rfl
 | .list t,x,_=>QhU (.list t) x
 | .pair a b,x,h=>by
  simp only [Ty.dok,Bool.and_eq_true] at h
  have e1:(Qm a x.1++Qm b x.2).take a.cells=Qm a x.1:=by rw [← Jx a x.1,List.take_left]
  have e2:(Qm a x.1++Qm b x.2).drop a.cells=Qm b x.2:=by rw [← Jx a x.1,List.drop_left]
  simp only [YN,Qm,e1,e2,QbS a x.1 h.1,QbS b x.2 h.2]
theorem QA4 {α:Type} (pre post:List α) (x y:α):(pre++x::post).set pre.length y=pre++y::post:=by
 induction pre with
 | nil=>rfl
 | cons a pre ih=>simp [ih]
theorem EP:∀ {t:Ty},t.mok=true→t.dok=true
 | .int _,_=>rfl
 | .bool,_=>rfl
 | .str,_=>rfl
 | .unit,_=>rfl
 | .pair a b,h=>by
  simp only [Ty.mok,Bool.and_eq_true] at h
  simp only [Ty.dok,Bool.and_eq_true]
  exact ⟨EP h.1,EP h.2⟩
 | .list t,h=>EP (t:=t) h
theorem QnX (pre post:List V) (x y:V) (k:Int) (hx:x.scl=true):QwM (pre++x::post) pre.length y k=some (pre++y::post,k):=by
 unfold QwM
 have:(pre++x::post)[pre.length]? = some x:=by simp
 rw [this]
 simp only [hx,cond_true,QA4]
theorem QvL {t:Ty} (ht:t.dok=true) (pre post:List V) (x:t.den) (k:Int) (hk:k+HS t x≤ZT):QaH (.sub pre.length t) (pre++Qm t x++post,k)=some (pre++Qm t (Gl t x k).2++post,(Gl t x k).1):=by
 have e1:((pre++Qm t x++post).drop pre.length).take t.cells=Qm t x:=by
  rw [List.append_assoc,List.drop_left,← Jx t x,List.take_left]
 simp only [QaH,e1,QbS t x ht]
 rw [if_pos hk]
 congr 2
 unfold YO
 rw [Jx,← Jx t x]
 have e2:(pre++Qm t x++post).take pre.length=pre:=by rw [List.append_assoc,List.take_left]
 have e3:(pre++Qm t x++post).drop (pre.length+(Qm t x).length)=post:=by rw [← List.length_append,List.drop_left]
 rw [e2,e3]
theorem wrap_i64 {k:Int} (h0:0≤k) (h1:k≤ZT):IntKind.wrap .i64 k=k :=
 Qr8 (VZ.2 (by rw [WS,Ui];unfold ZT at h1;omega))
theorem QpE:∀ (t:Ty),t.mok=true→∀ (x:t.den) (pre post:List V) (k:Int) (rest:List Act1),0≤k→k+Wo t x≤ZT →
  Y2 (QjI t pre.length++rest) (pre++Qm t x++post,k)=Y2 rest (pre++Qm t (XE t x k).2++post,(XE t x k).1)
 | .int k0,ht,x,pre,post,k,rest,h0,h1=>by
  have h1:k+(1:Nat)≤ZT:=h1
  cases k0 with
  | i64 =>
   simp only [QjI,List.cons_append,List.nil_append,Y2,QaH,Qm,XE,List.append_assoc]
   rw [QnX (hx:=rfl)]
   simp only [Option.bind_some]
   rw [if_pos (by omega),wrap_i64 h0 (by omega)]
   rfl
  | u8 =>
   simp only [QjI,List.cons_append,List.nil_append,Y2,QaH,Qm,XE,List.append_assoc]
   rw [QnX (hx:=rfl)]
   simp only [Option.bind_some]
   rw [if_pos (by omega)]
   rfl
  | _=>cases ht
 | .bool,_,x,pre,post,k,rest,h0,h1=>by
  have h1:k+(1:Nat)≤ZT:=h1
  simp only [QjI,List.cons_append,List.nil_append,Y2,QaH,Qm,XE,List.append_assoc]
  rw [QnX (hx:=rfl)]
  simp only [Option.bind_some]
  rw [if_pos (by omega)]
  rfl
 | .str,_,x,pre,post,k,rest,h0,h1=>by
  have h1:k+(1:Nat)≤ZT:=h1
  simp only [QjI,List.cons_append,List.nil_append,Y2,QaH,Qm,XE,List.append_assoc]
  rw [QnX (hx:=rfl)]
  simp only [Option.bind_some]
  rw [if_pos (by omega)]
  rfl
 | .unit,_,x,pre,post,k,rest,_,_=>rfl
 | .pair a b,ht,x,pre,post,k,rest,h0,h1=>by
  simp only [Ty.mok,Bool.and_eq_true] at ht
  simp only [Wo] at h1
  have ha:=QpE a ht.1 x.1 pre (Qm b x.2++post) k (QjI b (pre.length+a.cells)++rest) h0 (by omega)
  have hb:=QpE b ht.2 x.2 (pre++Qm a (XE a x.1 k).2) post (XE a x.1 k).1 rest (by rw [QbR];omega) (by rw [QbR];omega)
  rw [List.length_append,Jx] at hb
  simp only [QjI,Qm,XE,List.append_assoc] at ha hb ⊢
  rw [ha,hb]
 | .list t,ht,xs,pre,post,k,rest,h0,h1=>by
  have:=QvL (t:=.list t) (EP (t:=.list t) ht) pre post xs k h1
  simp only [QjI,List.cons_append,List.nil_append,Y2,this,Option.bind_some]
  rfl
theorem QsU:∀ (t:Ty),t.dok=true→∀ (x:t.den) (pre post:List V) (k:Int) (acts rest:List Act1),QAn t pre.length acts=some rest→0≤k→k+HS t x≤ZT →
  Y2 acts (pre++Qm t x++post,k)=Y2 rest (pre++Qm t (Gl t x k).2++post,(Gl t x k).1)
 | .int _,_,x,pre,post,k,acts,rest,h,_,_=>by cases h;rfl
 | .bool,_,x,pre,post,k,acts,rest,h,_,_=>by cases h;rfl
 | .str,_,x,pre,post,k,acts,rest,h,_,_=>by cases h;rfl
 | .unit,_,x,pre,post,k,acts,rest,h,_,_=>by cases h;rfl
 | .list t,ht,xs,pre,post,k,acts,rest,h,h0,h1=>by
  rw [QuE h]
  simp only [Y2,QvL ht pre post xs k h1,Option.bind_some]
 | .pair a b,ht,x,pre,post,k,acts,rest,h,h0,h1=>by
  unfold QAn at h
  split at h
  ·rename_i r hr
   cases h
   rw [QuE hr]
   simp only [Y2,QvL ht pre post x k h1,Option.bind_some]
  ·obtain ⟨mid,hm,h⟩:=Option.bind_eq_some_iff.1 h
   simp only [Ty.dok,Bool.and_eq_true] at ht
   simp only [HS] at h1
   have ha:=QsU a ht.1 x.1 pre (Qm b x.2++post) k acts mid hm h0 (by omega)
   have hb:=QsU b ht.2 x.2 (pre++Qm a (Gl a x.1 k).2) post (Gl a x.1 k).1 mid rest (by rw [List.length_append,Jx];exact h) (by rw [WU];omega) (by rw [WU];omega)
   simp only [Qm,Gl,List.append_assoc] at ha hb ⊢
   rw [ha,hb]
end
end Go.Ab
