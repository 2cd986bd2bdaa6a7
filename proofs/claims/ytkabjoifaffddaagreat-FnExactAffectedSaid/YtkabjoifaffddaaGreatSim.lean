import Derived.Test.YtkabjoifaffddaaGreatPlain1
import Derived.Test.YtkabjoifaffddaaGreatAb25
namespace Go.Ab
noncomputable section
variable {R:Type}
structure Kn where
 fn:Func
 A:List (List Nat × Ann)
 I:List (List Nat × Nat)
 cs:List Ctr
def Qs2 (P:Program) (gl:Nat→Option (List V)) (k:Kn) (c:Ctr) (xs:HJ c.tys) (n:Nat):Option (Wf c.rets):=Qpf P gl k.A k.I (QaD k.cs) k.fn (k.fn.body.getD .skip) (QyS P k.fn (Qjo c.rets)) n (Jh c.tys xs)
def QB7 (P:Program) (gl:Nat→Option (List V)) (k:Kn) (c:Ctr) (q:List Nat) (vs:List V) (n:Nat):Option (Wf c.rets):=Qq7 P gl k.A k.I (QaD k.cs) k.fn (k.fn.body.getD .skip) (QyS P k.fn (Qjo c.rets)) n q vs
def QBb (P:Program) (gl:Nat→Option (List V)) (k:Kn) (c:Ctr) (xs:HJ c.tys) (n:Nat):Option (Wf c.rets):=Qpf P gl k.A k.I (QaD k.cs) k.fn (k.fn.body.getD .skip) (QtI P k.fn c.rets) n (Jh c.tys xs)
def QB8 (P:Program) (gl:Nat→Option (List V)) (k:Kn) (c:Ctr) (q:List Nat) (vs:List V) (n:Nat):Option (Wf c.rets):=Qq7 P gl k.A k.I (QaD k.cs) k.fn (k.fn.body.getD .skip) (QtI P k.fn c.rets) n q vs
def Ctr.el (c:Ctr):Ty:=match c.rets with
 | [.list t]=>t
 | _=>.unit
def QB9 (P:Program) (gl:Nat→Option (List V)) (k:Kn) (c:Ctr) (xs:HJ c.tys) (n:Nat):Option (List c.el.den):=Qpf P gl k.A k.I (QaD k.cs) k.fn (k.fn.body.getD .skip) (QhG P k.fn c.el) n (Jh c.tys xs)
def QCa (P:Program) (gl:Nat→Option (List V)) (k:Kn) (c:Ctr) (q:List Nat) (vs:List V) (n:Nat):Option (List c.el.den):=Qq7 P gl k.A k.I (QaD k.cs) k.fn (k.fn.body.getD .skip) (QhG P k.fn c.el) n q vs
def Cm (p:Option R) (f:Nat→Option R):Prop:=∀ r,p=some r→Ev f r
section
variable {A B p:Option R} {f g:Nat→Option R}
theorem QC:Cm none f:=fun _ h=>nomatch h
theorem Qb {a:R}:Cm (some a) (fun _=>some a):=fun _ h=>⟨0,fun _ _=>h⟩
theorem Qev (h:A=p):Cm p (fun _=>A):=fun _ hr=>⟨0,fun _ _=>h.trans hr⟩
theorem Qd {c:Bool} (h1:Cm A f) (h2:Cm B g):Cm (bif c then A else B) (fun n=>bif c then f n else g n):=by
 cases c
 ·exact h2
 ·exact h1
theorem Qk8 {c:Bool} (hc:c=true) (h:Cm A f):Cm A (fun n=>bif c then f n else g n):=by subst hc;exact h
theorem QAz {c c':Bool} (hc:c=c') (h1:Cm A f) (h2:Cm B g):Cm (bif c' then A else B) (fun n=>bif c then f n else g n):=by subst hc;exact Qd h1 h2
theorem QvT {c:Bool} (hc:c=false) (h:Cm A g):Cm A (fun n=>bif c then f n else g n):=by subst hc;exact h
theorem QI {k n0:Nat} (hk:k<n0) (h:Cm A f):Cm A (fun n=>bif inB (k:Int) n0 then f n else g n):=Qk8 (YS hk) h
theorem Qo {α:Type} {e:Option α} {A:α→Option R} {f:Nat→α→Option R} (h:∀ y,Cm (A y) (fun n=>f n y)):Cm (Option.bind e A) (fun n=>Option.bind e (f n)):=by
 cases e with
 | none=>exact QC
 | some y=>exact h y
theorem QD {α:Type} {xs:List α} (h:xs.length≤maxLen→Cm A f):Cm (QV xs A) f:=fun r h1=>Ev.ofLen h1 fun hl=>h hl r
theorem QX (he:∀ n,f n=g n) (h:Cm p g):Cm p f:=fun r hr=>(h r hr).of_eq he
theorem Jk (he:∀ n,f (n+1)=g n) (h:Cm p g):Cm p f:=fun r hr=>Ev.step (h r hr) he
theorem QmO {p:Nat→Option R} (h:∀ m,Cm (p m) f):Cm (QaF p) f:=fun r hr =>
 let ⟨m,hm⟩:=(Qk4 hr).get
 h m r hm
end
abbrev QL (x:Int):Int:=IntKind.wrap .i64 (x+1)
abbrev Z2 {α:Type} (xs:List α):Prop:=xs.length≤maxLen
def Jy {α:Type} (xs:List α) (p:List α→Nat→Option R) (L:Int→Nat→Option R):Prop:=∀ (rest:List α) (k:Nat),rest=xs.drop k→Cm (p rest k) (L k)
theorem JN {α:Type} {d:α} {xs:List α} {p:List α→Nat→Option R} {L B E:Int→Nat→Option R} (hl:Z2 xs)
  (he:∀ (k:Int) n,L k (n+1)=bif decide (k<(xs.length:Int)) then B k n else E k n)
  (h0:∀ (k:Nat),Cm (p [] k) (E k))
  (h1:∀ (k:Nat) rest,k<xs.length→Cm (p rest (k+1)) (L (QL k))→Cm (p (rd xs k d::rest) k) (B k)):Jy xs p L:=by
 intro rest
 induction rest with
 | nil =>
  intro k hr
  exact Jk (he k) (QvT (ltF (Qes hr)) (h0 k))
 | cons e rest ih =>
  intro k hr
  obtain ⟨hk,hx,hr2⟩:=Qaq (d:=d) hr
  subst hx
  refine Jk (he k) (Qk8 (ltT hk) (h1 k rest hk ?_))
  have hw:=GH hl hk
  show Cm _ (L (IntKind.wrap .i64 ((k:Int)+1)))
  rw [hw]
  exact ih (k+1) hr2
def Cm1 {T0:Type} (p:T0→Option R) (f:T0→Nat→Option R):Prop:=∀ s0,Cm (p s0) (f s0)
def XF {α:Type} {T0:Type} (xs:List α) (p:List α→Nat→T0→Option R) (L:Int→T0→Nat→Option R):Prop:=∀ (rest:List α) (k:Nat),rest=xs.drop k→∀ s0,Cm (p rest k s0) (L k s0)
theorem X5 {α:Type} {T0:Type} {d:α} {xs:List α} {p:List α→Nat→T0→Option R} {L B E:Int→T0→Nat→Option R} (hl:Z2 xs)
  (he:∀ (k:Int) s0 n,L k s0 (n+1)=bif decide (k<(xs.length:Int)) then B k s0 n else E k s0 n)
  (h0:∀ (k:Nat) s0,Cm (p [] k s0) (E k s0))
  (h1:∀ (k:Nat) rest,k<xs.length→(∀ s0,Cm (p rest (k+1) s0) (L (QL k) s0))→∀ s0,Cm (p (rd xs k d::rest) k s0) (B k s0)):XF xs p L:=by
 intro rest
 induction rest with
 | nil =>
  intro k hr s0
  exact Jk (he k s0) (QvT (ltF (Qes hr)) (h0 k s0))
 | cons e rest ih =>
  intro k hr s0
  obtain ⟨hk,hx,hr2⟩:=Qaq (d:=d) hr
  subst hx
  refine Jk (he k s0) (Qk8 (ltT hk) (h1 k rest hk (fun s0=>?_) s0))
  have hw:=GH hl hk
  show Cm _ (L (IntKind.wrap .i64 ((k:Int)+1)) s0)
  rw [hw]
  exact ih (k+1) hr2 s0
def Cm2 {T0 T1:Type} (p:T0→T1→Option R) (f:T0→T1→Nat→Option R):Prop:=∀ s0 s1,Cm (p s0 s1) (f s0 s1)
def QuH {α:Type} {T0 T1:Type} (xs:List α) (p:List α→Nat→T0→T1→Option R) (L:Int→T0→T1→Nat→Option R):Prop:=∀ (rest:List α) (k:Nat),rest=xs.drop k→∀ s0 s1,Cm (p rest k s0 s1) (L k s0 s1)
theorem QwW {α:Type} {T0 T1:Type} {d:α} {xs:List α} {p:List α→Nat→T0→T1→Option R} {L B E:Int→T0→T1→Nat→Option R} (hl:Z2 xs)
  (he:∀ (k:Int) s0 s1 n,L k s0 s1 (n+1)=bif decide (k<(xs.length:Int)) then B k s0 s1 n else E k s0 s1 n)
  (h0:∀ (k:Nat) s0 s1,Cm (p [] k s0 s1) (E k s0 s1))
  (h1:∀ (k:Nat) rest,k<xs.length→(∀ s0 s1,Cm (p rest (k+1) s0 s1) (L (QL k) s0 s1))→∀ s0 s1,Cm (p (rd xs k d::rest) k s0 s1) (B k s0 s1)):QuH xs p L:=by
 intro rest
 induction rest with
 | nil =>
  intro k hr s0 s1
  exact Jk (he k s0 s1) (QvT (ltF (Qes hr)) (h0 k s0 s1))
 | cons e rest ih =>
  intro k hr s0 s1
  obtain ⟨hk,hx,hr2⟩:=Qaq (d:=d) hr
  subst hx
  refine Jk (he k s0 s1) (Qk8 (ltT hk) (h1 k rest hk (fun s0 s1=>?_) s0 s1))
  have hw:=GH hl hk
  show Cm _ (L (IntKind.wrap .i64 ((k:Int)+1)) s0 s1)
  rw [hw]
  exact ih (k+1) hr2 s0 s1
theorem QwX {T0 T1:Type} {p:Nat→T0→T1→Option R} {L B:T0→T1→Nat→Option R}
  (he:∀ s0 s1 n,L s0 s1 (n+1)=B s0 s1 n) (h0:∀ s0 s1,p 0 s0 s1=none)
  (h1:∀ m,(∀ s0 s1,Cm (p m s0 s1) (L s0 s1))→∀ s0 s1,Cm (p (m+1) s0 s1) (B s0 s1)):∀ (m:Nat) s0 s1,Cm (p m s0 s1) (L s0 s1):=by
 intro m
 induction m with
 | zero=>intro s0 s1 r h;rw [h0 s0 s1] at h;cases h
 | succ m ih=>intro s0 s1;exact Jk (fun n=>he s0 s1 n) (h1 m ih s0 s1)
theorem QBY {T0 T1 T2:Type} {p:Nat→T0→T1→T2→Option R} {L B:T0→T1→T2→Nat→Option R}
  (he:∀ s0 s1 s2 n,L s0 s1 s2 (n+1)=B s0 s1 s2 n) (h0:∀ s0 s1 s2,p 0 s0 s1 s2=none)
  (h1:∀ m,(∀ s0 s1 s2,Cm (p m s0 s1 s2) (L s0 s1 s2))→∀ s0 s1 s2,Cm (p (m+1) s0 s1 s2) (B s0 s1 s2)):∀ (m:Nat) s0 s1 s2,Cm (p m s0 s1 s2) (L s0 s1 s2):=by
 intro m
 induction m with
 | zero=>intro s0 s1 s2 r h;rw [h0 s0 s1 s2] at h;cases h
 | succ m ih=>intro s0 s1 s2;exact Jk (fun n=>he s0 s1 s2 n) (h1 m ih s0 s1 s2)
theorem QBZ {T0 T1 T2 T3 T4:Type} {p:Nat→T0→T1→T2→T3→T4→Option R} {L B:T0→T1→T2→T3→T4→Nat→Option R}
  (he:∀ s0 s1 s2 s3 s4 n,L s0 s1 s2 s3 s4 (n+1)=B s0 s1 s2 s3 s4 n) (h0:∀ s0 s1 s2 s3 s4,p 0 s0 s1 s2 s3 s4=none)
  (h1:∀ m,(∀ s0 s1 s2 s3 s4,Cm (p m s0 s1 s2 s3 s4) (L s0 s1 s2 s3 s4))→∀ s0 s1 s2 s3 s4,Cm (p (m+1) s0 s1 s2 s3 s4) (B s0 s1 s2 s3 s4)):∀ (m:Nat) s0 s1 s2 s3 s4,Cm (p m s0 s1 s2 s3 s4) (L s0 s1 s2 s3 s4):=by
 intro m
 induction m with
 | zero=>intro s0 s1 s2 s3 s4 r h;rw [h0 s0 s1 s2 s3 s4] at h;cases h
 | succ m ih=>intro s0 s1 s2 s3 s4;exact Jk (fun n=>he s0 s1 s2 s3 s4 n) (h1 m ih s0 s1 s2 s3 s4)
def chk (P:Program) (g:Nat) (k:Kn):Option Func × (Bool × Bool):=(P.funcs[g]?,k.fn.body.isSome,Nat.blt g Q2&&JG P g)
def QjM (k:Kn):Option Func × (Bool × Bool):=(some k.fn,true,true)
theorem Qk9 {P:Program} {g:Nat} {k:Kn} (h:chk P g k=QjM k):P.funcs[g]? = some k.fn∧k.fn.body=some (k.fn.body.getD .skip)∧Nat.blt g Q2=true∧JG P g=true:=by
 unfold chk QjM at h
 injection h with h1 h2
 injection h2 with h2 h3
 simp only [Bool.and_eq_true] at h3
 refine ⟨h1,?_,h3.1,h3.2⟩
 cases hb:k.fn.body with
 | none=>rw [hb] at h2;cases h2
 | some c=>rfl
theorem okD {P:Program} {gl:Nat→Option (List V)} {c:Ctr} (k:Kn) (h:(chk P c.g k,Nat.beq c.rets.length k.fn.results.size)=(QjM k,true)) (hcs:∀ x∈k.cs,CtrOkG P gl x) (hs:∀ xs,Cm (c.f xs) (Qs2 P gl k c xs)):CtrOkG P gl c:=by
 injection h with h hres
 obtain ⟨h1,h2,h3,h4⟩:=Qk9 h
 exact QmL h3 h1 h2 h4 (Nat.eq_of_beq_eq_true hres) hcs fun xs y hy=>(hs xs y hy).get
theorem okS {P:Program} {gl:Nat→Option (List V)} {c:Ctr} (k:Kn) (h:(chk P c.g k,Nat.beq c.rets.length k.fn.results.size)=(QjM k,true)) (hcs:∀ x∈k.cs,CtrOkG P gl x) (hs:∀ xs,Qs2 P gl k c xs 0=c.f xs):CtrOkG P gl c:=by
 injection h with h hres
 obtain ⟨h1,h2,h3,h4⟩:=Qk9 h
 exact QmL h3 h1 h2 h4 (Nat.eq_of_beq_eq_true hres) hcs fun xs y hy=>⟨0,(hs xs).trans hy⟩
theorem okP {P:Program} {gl:Nat→Option (List V)} {g:Nat} {tys rets:List Ty} {f:HJ tys→Option (Wf rets)} (k:Kn) (h:chk P g k=QjM k) (hcs:∀ x∈k.cs,CtrOkG P gl x) (hs:∀ xs:HJ tys,Cm (f xs) (QBb P gl k (Ek g tys rets f) xs)):CtrOkG P gl (Ek g tys rets f):=by
 obtain ⟨h1,h2,h3,h4⟩:=Qk9 h
 exact QqI h3 h1 h2 h4 hcs fun xs y hy=>(hs xs y hy).get
theorem okO {P:Program} {gl:Nat→Option (List V)} {g:Nat} {tys:List Ty} {t:Ty} {f:HJ tys→Option (List t.den)} (k:Kn) (h:chk P g k=QjM k) (hcs:∀ x∈k.cs,CtrOkG P gl x) (hs:∀ xs:HJ tys,Cm (f xs) (QB9 P gl k (QlT g tys t f) xs)):CtrOkG P gl (QlT g tys t f):=by
 obtain ⟨h1,h2,h3,h4⟩:=Qk9 h
 exact QxP h3 h1 h2 h4 hcs fun xs y hy=>(hs xs y hy).get
theorem okR {P:Program} {gl:Nat→Option (List V)} {g:Nat} {tys rets:List Ty} {f:Nat→HJ tys→Option (Wf rets)} (h0:∀ xs,f 0 xs=none) (h:∀ d,CtrOkG P gl ⟨g,tys,rets,f d⟩→CtrOkG P gl ⟨g,tys,rets,f (d+1)⟩):CtrOkG P gl ⟨g,tys,rets,fun x=>QaF fun d=>f d x⟩:=by
 have all:∀ d,CtrOkG P gl ⟨g,tys,rets,f d⟩:=by
  intro d
  induction d with
  | zero=>intro xs y hy;exact nomatch (h0 xs).symm.trans hy
  | succ d ih=>exact h d ih
 intro xs y hy
 obtain ⟨d,hd⟩:=(Qk4 hy).get
 exact all d xs y hd
abbrev szF (g:Nat) (t:Ty):Ctr:=⟨g,[t,.int .i64],[.int .i64],fun x=>szC t x.1 x.2.1⟩
abbrev toF (g:Nat) (t:Ty):Ctr:=⟨g,[t],[t],fun x=>toC t x.1⟩
abbrev toP (g:Nat) (t:Ty):Ctr:=Ek g [t] [t] fun x=>toC t x.1
abbrev eqF (g:Nat) (t:Ty):Ctr:=⟨g,[t,t],[.bool],fun x=>eqC t x.1 x.2.1⟩
def toM:List Bool→(t:Ty)→t.den→(t.den→Option R)→Option R | [m],t,x,K=>bif m then Option.bind (toC t x) K else K x | m::ms,.pair a b,x,K=>bif m then Option.bind (toC a x.1) fun y=>toM ms b x.2 fun z=>K (y,z) else toM ms b x.2 fun z=>K (x.1,z) | _,_,_,_=>none
def QuI:List Bool→Ty→Bool | [_],_=>true | _::m::ms,.pair _ b=>QuI (m::ms) b | _,_=>false
theorem Qx3:∀ {ms:List Bool} {t:Ty} {x:t.den} {K:t.den→Option R},QuI ms t=true→wfD t x→t.size x≤1073741824→toM ms t x K=K x
 | [],t,_,_,h,_,_=>by simp [QuI] at h
 | [m],t,x,K,_,hw,hs=>by
  cases m
  ·rfl
  ·simp only [toM,cond_true]
   rw [Qer hw hs];rfl
 | m::m2::ms,.pair a b,x,K,h,hw,hs=>by
  have hs2:a.size x.1+b.size x.2≤1073741824:=hs
  have hw2:wfD a x.1∧wfD b x.2:=hw
  have ih:=fun (K:b.den→Option R)=>Qx3 (ms:=m2::ms) (t:=b) (x:=x.2) (K:=K) h hw2.2 (by omega)
  cases m
  ·simp only [toM,cond_false]
   rw [ih]
  ·simp only [toM,cond_true]
   rw [Qer hw2.1 (by omega)]
   simp only [Option.bind_some]
   rw [ih]
 | _::_::_,.int _,_,_,h,_,_ | _::_::_,.bool,_,_,h,_,_ | _::_::_,.str,_,_,h,_,_ | _::_::_,.unit,_,_,h,_,_ | _::_::_,.list _,_,_,h,_,_ | _::_::_,.map _ _,_,_,h,_,_ | _::_::_,.tree _,_,_,h,_,_=>by simp [QuI] at h
theorem okE {P:Program} {gl:Nat→Option (List V)} {c:Ctr} (k:Kn) (h:(chk P c.g k,Nat.beq c.rets.length k.fn.results.size)=(QjM k,true)) (hcs:∀ x∈k.cs,CtrOkG P gl x) (hs:∀ xs y,c.f xs=some y→∃ n,Qs2 P gl k c xs n=some y):CtrOkG P gl c:=by
 injection h with h hres
 obtain ⟨h1,h2,h3,h4⟩:=Qk9 h
 exact QmL h3 h1 h2 h4 (Nat.eq_of_beq_eq_true hres) hcs hs
theorem QB0 {P:Program} {gl:Nat→Option (List V)} {g:Nat} {tys rets:List Ty} {f:HJ tys→Option (Wf rets)} (k:Kn) (h:chk P g k=QjM k) (hcs:∀ x∈k.cs,CtrOkG P gl x) (hs:∀ (xs:HJ tys) y,f xs=some y→∃ n,QBb P gl k (Ek g tys rets f) xs n=some y):CtrOkG P gl (Ek g tys rets f):=by
 obtain ⟨h1,h2,h3,h4⟩:=Qk9 h
 exact QqI h3 h1 h2 h4 hcs hs
theorem QgS {P:Program} {g:Nat} {t:Ty} (k:Kn) (ms:List Bool) (h:(chk P g k,Nat.beq 1 k.fn.results.size,QuI ms t)=(QjM k,true,true)) (hcs:∀ x∈k.cs,G4 P x) (hs:∀ x,Qs2 P noG k (toF g t) x 0=toM ms t x.1 some):G4 P (toF g t):=by
 injection h with h1 h2;injection h2 with h2 h3
 refine okE k (Prod.ext h1 h2) hcs fun xs y hy=>?_
 obtain ⟨q1,q2,rfl⟩:=QrS hy
 exact ⟨0,(hs xs).trans (Qx3 h3 q1 q2)⟩
theorem QjN {P:Program} {g:Nat} {t:Ty} (k:Kn) (ms:List Bool) (h:(chk P g k,QuI ms t)=(QjM k,true)) (hcs:∀ x∈k.cs,G4 P x) (hs:∀ x,QBb P noG k (toP g t) x 0=toM ms t x.1 some):G4 P (toP g t):=by
 injection h with h1 h3
 refine QB0 k h1 hcs fun xs y hy=>?_
 obtain ⟨q1,q2,rfl⟩:=QrS hy
 exact ⟨0,(hs xs).trans (Qx3 h3 q1 q2)⟩
theorem QjO {P:Program} {g:Nat} {t:Ty} (k:Kn) (f:t.den→Option t.den) (by_:Nat) (L:List t.den→Int→List t.den→Nat→Option (List t.den)) (h:(chk P g k,Nat.beq 1 k.fn.results.size,Nat.ble by_ 100000)=(QjM k,true,true)) (hcs:∀ x∈k.cs,G4 P x)
  (hf:∀ x:t.den,wfD t x→t.size x≤1073741824→f x=some x)
  (h0:∀ (x:HJ [.list t]) n,Qs2 P noG k (toF g (.list t)) x n=bif decide ((List.length (α:=t.den) x.1:Int)=(List.length (α:=t.den) x.1:Int))&&decide ((0:Int)≤(List.length (α:=t.den) x.1:Int))&&decide ((List.length (α:=t.den) x.1:Int)*(by_:Int)≤Q4)&&true then L x.1 0 (List.replicate (Int.toNat (List.length (α:=t.den) x.1:Int)) t.dflt) n else none)
  (h1:∀ xs i out n,L xs i out (n+1)=bif decide (i<(xs.length:Int)) then bif inB i xs.length then (Option.bind (f (rd xs i t.dflt)) fun y=>bif inB i out.length then bif inB i out.length&&true&&true&&true&&true then L xs (IntKind.wrap .i64 (i+1)) (out.set (Int.toNat i) y) n else none else none) else none else some out):G4 P (toF g (.list t)):=by
 injection h with c1 c2;injection c2 with c2 c3
 refine okE k (Prod.ext c1 c2) hcs fun xs y hy=>?_
 obtain ⟨n,hn⟩:=QBz (L:=fun n xs i out=>L xs i out n) hf (by_:=by_) (Nat.le_of_ble_eq_true c3) (fun n xs i out=>h1 xs i out n) hy
 exact ⟨n,(h0 xs n).trans hn⟩
theorem Qew {P:Program} {g:Nat} {t:Ty} (k:Kn) (f:t.den→Option t.den) (by_:Nat) (L:List t.den→Int→List t.den→Nat→Option (List t.den)) (h:(chk P g k,Nat.ble by_ 100000)=(QjM k,true)) (hcs:∀ x∈k.cs,G4 P x)
  (hf:∀ x:t.den,wfD t x→t.size x≤1073741824→f x=some x)
  (h0:∀ (x:HJ [.list t]) n,QBb P noG k (toP g (.list t)) x n=bif decide ((List.length (α:=t.den) x.1:Int)=(List.length (α:=t.den) x.1:Int))&&decide ((0:Int)≤(List.length (α:=t.den) x.1:Int))&&decide ((List.length (α:=t.den) x.1:Int)*(by_:Int)≤Q4)&&true&&true&&true then L x.1 0 (List.replicate (Int.toNat (List.length (α:=t.den) x.1:Int)) t.dflt) n else none)
  (h1:∀ xs i out n,L xs i out (n+1)=bif decide (i<(xs.length:Int)) then bif inB i xs.length then (Option.bind (f (rd xs i t.dflt)) fun y=>bif inB i out.length then bif inB i out.length&&true&&true&&true&&true&&true&&true then L xs (IntKind.wrap .i64 (i+1)) (out.set (Int.toNat i) y) n else none else none) else none else some out):G4 P (toP g (.list t)):=by
 injection h with c1 c3
 refine QB0 k c1 hcs fun xs y hy=>?_
 obtain ⟨n,hn⟩:=QBD (L:=fun n xs i out=>L xs i out n) hf (by_:=by_) (Nat.le_of_ble_eq_true c3) (fun n xs i out=>h1 xs i out n) hy
 exact ⟨n,(h0 xs n).trans hn⟩
theorem Y9 {t:Ty}:∀ x:t.den,wfD t x→t.size x≤1073741824→toC t x=some x:=fun _ h h2=>Qer h h2
theorem QwY {t:Ty}:∀ x:t.den,wfD t x→t.size x≤1073741824→some x=some x:=fun _ _ _=>rfl
def Ty.flat0:Ty→Bool | .int _ | .bool | .unit=>true | .pair a b=>a.flat0&&b.flat0 | _=>false
theorem QmP:∀ {t:Ty} {x:t.den},t.flat0=true→t.size x=0
 | .int _,_,_=>rfl
 | .bool,_,_=>rfl
 | .unit,_,_=>rfl
 | .pair a b,x,h=>by
  simp only [Ty.flat0,Bool.and_eq_true] at h
  simp only [Ty.size,QmP h.1,QmP h.2]
 | .str,_,h=>by simp [Ty.flat0] at h
 | .list _,_,h=>by simp [Ty.flat0] at h
 | .map _ _,_,h=>by simp [Ty.flat0] at h
 | .tree _,_,h=>by simp [Ty.flat0] at h
def QB1:(t:Ty)→t.den→Int | .str,x=>(List.length (α:=Int) x:Int) | _,_=>0
def szP (m:Nat) (t:Ty) (x:t.den) (l:Int) (K:Int→Option Int):Option Int:=match m with
 | 0=>K l
 | 1=>bif decide (IntKind.wrap .i64 (l - QB1 t x)<0) then some (-1) else K (IntKind.wrap .i64 (l - QB1 t x))
 | _=>Option.bind (szC t x l) fun y=>bif decide (y<0) then some (-1) else K y
def szM:List Nat→(t:Ty)→t.den→Int→Option Int | [m],t,x,l=>szP m t x l some | m::ms,.pair a b,x,l=>szP m a x.1 l (szM ms b x.2) | _,_,_,_=>none
def QyF (m:Nat) (t:Ty):Bool:=match m with
 | 0=>t.flat0
 | 1=>match t with
  | .str=>true
  | _=>false
 | _=>true
def QuJ:List Nat→Ty→Bool | [m],t=>QyF m t | m::m2::ms,.pair a b=>QyF m a&&QuJ (m2::ms) b | _,_=>false
theorem QAA {m:Nat} {t:Ty} {x:t.den} {l:Int} {K:Int→Option Int} {r:Nat} (h:QyF m t=true) (hw:wfD t x) (h0:0≤l) (h1:l≤1099511627776) (hK:∀ l',0≤l'→l'≤1099511627776→K l'=some (Vn l' r)):szP m t x l K=some (Vn l (t.size x+r)):=by
 match m,h with
 | 0,h =>
  have h:t.flat0=true:=h
  show K l=_
  rw [hK l h0 h1,QmP h,Nat.zero_add]
 | 1,h =>
  cases t with
  | str =>
   have hl:List.length (α:=Int) x≤maxLen:=QyB hw
   have hsz:Ty.size .str x=List.length (α:=Int) x:=rfl
   refine QnW (K:=K) (n:=List.length (α:=Int) x) h0 h1 hl (fun h=>?_) (fun h=>?_)
   ·rw [hsz];unfold Vn;rw [if_neg (by omega)]
   ·rw [hK _ (by omega) (by omega),hsz]
    congr 1
    unfold Vn
    split<;>split<;>omega
  | _=>exact nomatch h
 | m+2,_ =>
  refine QA2 (K:=K) hw h0 h1 (fun h=>?_) (fun h=>?_)
  ·unfold Vn;rw [if_neg (by omega)]
  ·rw [hK _ (by omega) (by omega)]
   congr 1
   unfold Vn
   split<;>split<;>omega
theorem QAB:∀ {ms:List Nat} {t:Ty} {x:t.den} {l:Int},QuJ ms t=true→wfD t x→0≤l→l≤1099511627776→szM ms t x l=some (Vn l (t.size x))
 | [],t,_,_,h,_,_,_=>by simp [QuJ] at h
 | [m],t,x,l,h,hw,h0,h1=>QAA (r:=0) h hw h0 h1 fun l' h0 h1=>by unfold Vn;rw [if_pos (by omega)];simp
 | m::m2::ms,.pair a b,x,l,h,hw,h0,h1=>by
  have hw2:wfD a x.1∧wfD b x.2:=hw
  have h2:(QyF m a&&QuJ (m2::ms) b)=true:=h
  rw [Bool.and_eq_true] at h2
  exact QAA h2.1 hw2.1 h0 h1 fun l' h0 h1=>QAB h2.2 hw2.2 h0 h1
 | _::_::_,.int _,_,_,h,_,_,_ | _::_::_,.bool,_,_,h,_,_,_ | _::_::_,.str,_,_,h,_,_,_ | _::_::_,.unit,_,_,h,_,_,_ | _::_::_,.list _,_,_,h,_,_,_ | _::_::_,.map _ _,_,_,h,_,_,_ | _::_::_,.tree _,_,_,h,_,_,_=>by simp [QuJ] at h
theorem QgT {P:Program} {g:Nat} {t:Ty} (k:Kn) (ms:List Nat) (h:(chk P g k,Nat.beq 1 k.fn.results.size,QuJ ms t)=(QjM k,true,true)) (hcs:∀ x∈k.cs,G4 P x) (hs:∀ x,Qs2 P noG k (szF g t) x 0=szM ms t x.1 x.2.1):G4 P (szF g t):=by
 injection h with h1 h2;injection h2 with h2 h3
 refine okE k (Prod.ext h1 h2) hcs fun xs y hy=>?_
 obtain ⟨hw,q0,q1,rfl⟩:=QvJ hy
 exact ⟨0,(hs xs).trans (QAB h3 hw q0 q1)⟩
theorem QlW {P:Program} {g:Nat} {t:Ty} (k:Kn) (L:List t.den→Int→Int→Nat→Option Int) (h:(chk P g k,Nat.beq 1 k.fn.results.size)=(QjM k,true)) (hcs:∀ x∈k.cs,G4 P x)
  (h0:∀ x n,Qs2 P noG k (szF g (.list t)) x n=bif decide (IntKind.wrap .i64 (x.2.1 - (List.length (α:=t.den) x.1:Int))<0) then some (-1) else L x.1 (IntKind.wrap .i64 (x.2.1 - (List.length (α:=t.den) x.1:Int))) 0 n)
  (h1:∀ xs s i n,L xs s i (n+1)=bif decide (i<(xs.length:Int)) then bif inB i xs.length then QsS t (szC t) (rd xs i t.dflt) i s (fun s'=>L xs s' (IntKind.wrap .i64 (i+1)) n) else none else some s):G4 P (szF g (.list t)):=by
 injection h with c1 c2
 refine okE k (Prod.ext c1 c2) hcs fun xs y hy=>?_
 obtain ⟨n,hn⟩:=QAm (L:=fun n xs s i=>L xs s i n) (fun n xs s i=>h1 xs s i n) hy
 exact ⟨n,(h0 xs n).trans hn⟩
theorem QB2 {P:Program} {g:Nat} (k:Kn) (L:List (List Int)→Int→Int→Nat→Option Int) (h:(chk P g k,Nat.beq 1 k.fn.results.size)=(QjM k,true)) (hcs:∀ x∈k.cs,G4 P x)
  (h0:∀ x n,Qs2 P noG k (szF g (.list .str)) x n=bif decide (IntKind.wrap .i64 (x.2.1 - (List.length (α:=List Int) x.1:Int))<0) then some (-1) else L x.1 (IntKind.wrap .i64 (x.2.1 - (List.length (α:=List Int) x.1:Int))) 0 n)
  (h1:∀ xs s i n,L xs s i (n+1)=bif decide (i<(xs.length:Int)) then bif inB i xs.length then
   (bif decide (IntKind.wrap .i64 (s - ((rd xs i ([]:List Int)).length:Int))<0) then some (-1) else L xs (IntKind.wrap .i64 (s - ((rd xs i ([]:List Int)).length:Int))) (IntKind.wrap .i64 (i+1)) n) else none else some s):G4 P (szF g (.list .str)):=by
 injection h with c1 c2
 refine okE k (Prod.ext c1 c2) hcs fun xs y hy=>?_
 obtain ⟨n,hn⟩:=QA1 (L:=fun n xs s i=>L xs s i n) (fun n xs s i=>h1 xs s i n) hy
 exact ⟨n,(h0 xs n).trans hn⟩
def neD:(t:Ty)→t.den→t.den→Bool
 | .int _,x,y=>!decide ((show Int from x)=y)
 | .str,x,y=>!decide ((show List Int from x)=y)
 | .bool,x,y=>xor (show Bool from x) y
 | _,_,_=>true
def eqP (m:Nat) (t:Ty) (x y:t.den) (K:Option Bool):Option Bool:=match m with
 | 0=>bif neD t x y then some false else K
 | 1=>Option.bind (eqC t x y) fun b=>bif !b then some false else K
 | _=>K
def eqM:List Nat→(t:Ty)→t.den→t.den→Option Bool | [m],t,x,y=>eqP m t x y (some true) | m::ms,.pair a b,x,y=>eqP m a x.1 y.1 (eqM ms b x.2 y.2) | _,_,_,_=>none
def Qs3 (m:Nat) (t:Ty):Bool:=match m with
 | 0=>match t with
  | .int _ | .str | .bool=>true
  | _=>false
 | _=>true
def QuK:List Nat→Ty→Bool | [m],t=>Qs3 m t | m::m2::ms,.pair a b=>Qs3 m a&&QuK (m2::ms) b | _,_=>false
theorem QBF {t:Ty} {x:t.den} (h:Qs3 0 t=true):neD t x x=false:=by
 cases t<;>first | (simp [neD];done) | (simp [Qs3] at h)
theorem Qx4 {m:Nat} {t:Ty} {x:t.den} {K:Option Bool} (h:Qs3 m t=true) (hw:wfD t x):eqP m t x x K=K:=by
 match m,h with
 | 0,h =>
  simp only [eqP]
  rw [QBF h];rfl
 | 1,_ =>
  simp only [eqP]
  rw [QjH hw];rfl
 | _+2,_=>rfl
theorem QAC:∀ {ms:List Nat} {t:Ty} {x:t.den},QuK ms t=true→wfD t x→eqM ms t x x=some true
 | [],t,_,h,_=>by simp [QuK] at h
 | [m],t,x,h,hw=>Qx4 h hw
 | m::m2::ms,.pair a b,x,h,hw=>by
  have hw2:wfD a x.1∧wfD b x.2:=hw
  have h2:(Qs3 m a&&QuK (m2::ms) b)=true:=h
  rw [Bool.and_eq_true] at h2
  exact (Qx4 h2.1 hw2.1).trans (QAC h2.2 hw2.2)
 | _::_::_,.int _,_,h,_ | _::_::_,.bool,_,h,_ | _::_::_,.str,_,h,_ | _::_::_,.list _,_,h,_ | _::_::_,.map _ _,_,h,_ | _::_::_,.tree _,_,h,_ | _::_::_,.unit,_,h,_=>by simp [QuK] at h
theorem QfK {P:Program} {g:Nat} {t:Ty} (k:Kn) (ms:List Nat) (h:(chk P g k,Nat.beq 1 k.fn.results.size,QuK ms t)=(QjM k,true,true)) (hcs:∀ x∈k.cs,G4 P x) (hs:∀ x,Qs2 P noG k (eqF g t) x 0=eqM ms t x.1 x.2.1):G4 P (eqF g t):=by
 injection h with h1 h2;injection h2 with h2 h3
 refine okE k (Prod.ext h1 h2) hcs fun xs y hy=>?_
 obtain ⟨a,b,u⟩:=xs
 obtain ⟨e,hw,rfl⟩:=QyC hy
 have e:a=b:=e
 subst e
 exact ⟨0,(hs _).trans (QAC h3 hw)⟩
theorem Qiq {P:Program} {g:Nat} {t:Ty} (k:Kn) (m:Nat) (L:List t.den→List t.den→Int→Nat→Option Bool) (h:(chk P g k,Nat.beq 1 k.fn.results.size,Qs3 m t)=(QjM k,true,true)) (hcs:∀ x∈k.cs,G4 P x)
  (h0:∀ (x:HJ [.list t,.list t]) n,Qs2 P noG k (eqF g (.list t)) x n=bif !decide ((List.length (α:=t.den) x.1:Int)=(List.length (α:=t.den) x.2.1:Int)) then some false else L x.1 x.2.1 0 n)
  (h1:∀ xs ys i n,L xs ys i (n+1)=bif decide (i<(xs.length:Int)) then bif inB i xs.length then bif inB i ys.length then eqP m t (rd xs i t.dflt) (rd ys i t.dflt) (L xs ys (IntKind.wrap .i64 (i+1)) n) else none else none else some true):G4 P (eqF g (.list t)):=by
 injection h with c1 c2;injection c2 with c2 c3
 refine okE k (Prod.ext c1 c2) hcs fun xs y hy=>?_
 obtain ⟨n,hn⟩:=QBA (body:=fun x y K=>eqP m t x y (K ())) (fun x K hw=>Qx4 c3 hw) (L:=fun n xs ys i=>L xs ys i n) (fun n xs ys i=>h1 xs ys i n) hy
 exact ⟨n,(h0 xs n).trans hn⟩
end
end Go.Ab
