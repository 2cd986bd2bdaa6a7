import Derived.Test.YtkabjoifaffddaaGreatAfG
namespace Go.Ab
open Go.Proofs
noncomputable section
def We (all:List Qh) (e:Xq Qi):Qu:=(atI all e.1,atI all e.2.1,e.2.2)
theorem QBI {b:List Qz} {q:Zt × Nat} (h:b.length≤30) (hq:Jv b 10 0=some q):Vp b=some (q.1,decide (q.2=b.length)):=by
 have h0:=EK hq
 rw [Vp,Ql7 (by unfold maxLen;omega),Option.bind_some,hq,decide_eq_false (show ¬ (b.length:Int)<1 by omega),decide_eq_false (show ¬ (30:Int)<(b.length:Int) by omega)]
 simp only [cond_false]
 rw [eta,show decide ((Qt8 (some q)).2=(b.length:Int))=decide (q.2=b.length) from decide_eq_decide.2 (by show (q.2:Int)=_↔_;omega)]
 rfl
theorem Qqj {all:List Qh} (hall:all.length≤maxLen) (K:List Qu→Option (List Qu)) (t:Qf) (r:Qv):∀ (l:List Qx) (acc:List Qu),acc.length+l.length≤3000000 →
  Yg K all t r l acc=K (acc++((l.filter fun k=>!decide (k.2.1=([]:List Int))).map fun k=>We all ((t.1,r.1),(k.1,k.2.1),false)))
 | [],acc,_=>by rw [Yg];simp
 | e::l,acc,h=>by
  simp only [List.length_cons] at h
  rw [Yg,Ud hall,Ud hall]
  simp only [Option.bind_some]
  rw [Qqj hall K t r l _ (by simp;omega),Qqj hall K t r l acc (by omega),QbI (by omega) (by omega) (by omega),List.filter_cons]
  cases decide (e.2.1=([]:List Int))<;>simp [We]
theorem QuT {s:Qa} (hg:SchGood s) {all:List Qh} (hall:all.length≤maxLen) (K:List Qu→Option (List Qu)) {t:Qf} (ht:t∈s.2):∀ (l:List Qq) (acc:List Qu),(∀ p∈l,p∈t.2.2)→acc.length+l.length*270≤3000000 →
  Yz K all s t l acc=K (acc++(l.flatMap fun p=>(GO (Qhz s t) t.1 p.2 10 0 false).map (Gk (t.1,p.1))).map (We all))
 | [],acc,_,_=>by rw [Yz];simp
 | e::l,acc,hl,h=>by
  simp only [List.length_cons] at h
  have he:=hl e List.mem_cons_self
  have hgt:=hg.good t ht
  obtain ⟨h1,⟨q,hq⟩,_⟩:=hgt.body e he
  have hlen:=Qtq hgt (Qw7 hgt) t.1 he
  rw [Yz,QBI h1 hq,Option.bind_some,Ud hall,Option.bind_some,eta,QBH hg.toSchLen (hg.typ t ht) (hg.rel t ht) hall _ hq acc (by omega),Option.bind_some,QuT hg hall K ht l _ (fun p hp=>hl p (List.mem_cons_of_mem _ hp)) (by simp only [List.length_append,List.length_map];omega)]
  simp only [List.flatMap_cons,List.map_append,List.map_map,List.append_assoc]
  rfl
theorem QuU {s:Qa} (hg:SchGood s) {all:List Qh} (hall:all.length≤maxLen) (K:List Qu→Option (List Qu)) {t:Qf} (ht:t∈s.2):∀ (l:List Qv) (acc:List Qu),(∀ r∈l,r∈t.2.1)→acc.length+l.length*8≤2000000 →
  Y4 K all s t l acc=K (acc++(l.flatMap (fun r=>(Qtp r).map (Gk (t.1,r.1)))++t.2.2.flatMap (fun p=>(GO (Qhz s t) t.1 p.2 10 0 false).map (Gk (t.1,p.1)))).map (We all))
 | [],acc,_,h=>by
  have:=(hg.good t ht).np
  simp only [List.length_nil] at h
  rw [Y4,Qw (hg.typ t ht).2,QuT hg hall K ht _ _ (fun _ h=>h) (by omega)];simp
 | e::l,acc,hl,h=>by
  simp only [List.length_cons] at h
  have he:=hl e List.mem_cons_self
  have h8:=((hg.good t ht).sub e he).1
  rw [Y4,Qw (by unfold maxLen;omega),Qqj hall _ _ _ _ _ (by omega),QuU hg hall K ht l _ (fun p hp=>hl p (List.mem_cons_of_mem _ hp)) (by
   have:=List.length_filter_le (fun k:Qx=>!decide (k.2.1=([]:List Int))) e.2
   simp only [List.length_append,List.length_map];omega)]
  simp only [List.flatMap_cons,List.map_append,List.map_map,List.append_assoc,Qtp]
  rfl
theorem Qtr {s:Qa} (hg:SchGood s) {t:Qf} (ht:t∈s.2):(QkN s t).length≤3336:=by
 have hgt:=hg.good t ht
 unfold QkN
 rw [List.length_append]
 have h1:=Qc5 (f:=fun r:Qv=>(Qtp r).map (Gk (t.1,r.1))) (m:=8) (l:=t.2.1) fun r hr=>by
  unfold Qtp
  rw [List.length_map,List.length_map]
  exact Nat.le_trans (List.length_filter_le _ _) (hgt.sub r hr).1
 have h2:=Qc5 (f:=fun p:Qq=>(GO (Qhz s t) t.1 p.2 10 0 false).map (Gk (t.1,p.1))) (m:=270) (l:=t.2.2) fun p hp=>by
  rw [List.length_map];exact Qtq hgt (Qw7 hgt) t.1 hp
 have:=hgt.nr
 have:=hgt.np
 omega
theorem QuV {s:Qa} (hg:SchGood s) {all:List Qh} (hall:all.length≤maxLen):∀ (l:List Qf) (acc:List Qu),(∀ t∈l,t∈s.2)→acc.length+l.length*3336≤1900000 →
  Y5 all s l acc=some (acc++(l.flatMap (QkN s)).map (We all))
 | [],acc,_,_=>by rw [Y5];simp
 | e::l,acc,hl,h=>by
  simp only [List.length_cons] at h
  have he:=hl e List.mem_cons_self
  have hlen:=Qtr hg he
  have:=(hg.good e he).nr
  rw [Y5,Qw (hg.typ e he).1,QuU hg hall _ he _ _ (fun _ h=>h) (by omega),show (e.2.1.flatMap (fun r=>(Qtp r).map (Gk (e.1,r.1)))++e.2.2.flatMap (fun p=>(GO (Qhz s e) e.1 p.2 10 0 false).map (Gk (e.1,p.1))))=QkN s e from rfl,QuV hg hall l _ (fun p hp=>hl p (List.mem_cons_of_mem _ hp)) (by
   simp only [List.length_append,List.length_map];omega)]
  simp
theorem QkO {s:Qa} (hg:SchGood s) {all:List Qh} (hall:all.length≤maxLen):VD s all=some ((Qbo s).map (We all)):=by
 have:=hg.nt
 rw [VD,Qw hg.t,QuV hg hall _ _ (fun _ h=>h) (by simp only [List.length_nil];omega)];rfl
def Q6 (N:List Qi) (lv:Qi→Nat):List Qh:=N.map fun n=>(n.1,n.2,((lv n:Nat):Int))
theorem JM (N:List Qi) (lv:Qi→Nat):(Q6 N lv).length=N.length:=List.length_map _
theorem QyM {n:Qi}:∀ {l:List Qi} {k i:Nat},l.Nodup→l[i]? = some n→atL n.1 n.2 (l.map Qav) k=((k+i:Nat):Int)
 | a::l,k,i,hn,h=>by
  obtain ⟨h1,h2⟩:=List.nodup_cons.1 hn
  rw [List.map_cons,atL]
  cases i with
  | zero =>
   rw [List.getElem?_cons_zero] at h
   cases h
   rw [if_pos ⟨rfl,rfl⟩];rfl
  | succ i =>
   rw [List.getElem?_cons_succ] at h
   rw [if_neg (fun e=>h1 (by
    have:a=n:=Prod.ext e.1 e.2
    rw [this];exact List.mem_of_getElem? h)),QyM h2 h]
   congr 1;omega
theorem QoY {N:List Qi} (hn:N.Nodup) {n:Qi} {i:Nat} (h:N[i]? = some n):atI (N.map Qav) n=(i:Int):=by
 rw [atI,QyM hn h,Nat.zero_add]
theorem QuW {N:List Qi} {lv:Qi→Nat} {n:Qi} {i:Nat} (h:N[i]? = some n) (d:Qh):rd (Q6 N lv) (i:Int) d=(n.1,n.2,((lv n:Nat):Int)) :=
 QkG (by rw [Q6,List.getElem?_map,h];rfl)
theorem Qyc {N:List Qi} (hn:N.Nodup) {lv:Qi→Nat} {n:Qi} {i:Nat} (h:N[i]? = some n) (v:Nat):(Q6 N lv).set i (n.1,n.2,(v:Int))=Q6 N (QrD lv n v):=by
 have hi:i<N.length:=(List.getElem?_eq_some_iff.1 h).1
 refine List.ext_getElem? fun j=>?_
 rw [List.getElem?_set]
 by_cases hj:i=j
 ·subst hj
  rw [if_pos rfl,JM,if_pos hi,Q6,List.getElem?_map,h,Option.map_some,H7]
 ·rw [if_neg hj,Q6,Q6,List.getElem?_map,List.getElem?_map]
  cases hm:N[j]? with
  | none=>rfl
  | some m =>
   rw [Option.map_some,Option.map_some,Uz _ _ fun e=>hj ((List.getElem?_inj hi hn).1 (by rw [h,hm,e]))]
theorem QoZ {a:Nat} (h:a≤1000000):IntKind.wrap .i64 ((a:Int)+1)=((a+1:Nat):Int):=GH (len:=1000001) (by unfold maxLen;omega) (by omega)
theorem QqZ {N:List Qi} (hn:N.Nodup) (hN:N.length≤288) (K:List Qh→Int→Option (List Qh × Bool)) (x3:Int):∀ (E:List (Xq Qi)) (lv:Qi→Nat) (x4:Bool),(∀ e∈E,e.1∈N∧e.2.1∈N)→(∀ x,lv x≤N.length) →
  QY K x3 (E.map (We (N.map Qav))) (Q6 N lv) x4=match Vo N.length E lv (!x4) with
   | none=>some ([],false)
   | some (lv',t)=>bif t then K (Q6 N lv') (IntKind.wrap .i64 (x3+1)) else some (Q6 N lv',true)
 | [],lv,x4,_,_=>by
  rw [List.map_nil,QY,Vo]
  cases x4<;>rfl
 | e::E,lv,x4,hE,hb=>by
  obtain ⟨⟨i,hi⟩,⟨j,hj⟩⟩:=(⟨List.getElem?_of_mem (hE e List.mem_cons_self).1,List.getElem?_of_mem (hE e List.mem_cons_self).2⟩:(∃ i,N[i]? = some e.1)∧∃ j,N[j]? = some e.2.1)
  have ih:=fun lv x4 hb=>QqZ hn hN K x3 E lv x4 (fun e he=>hE e (List.mem_cons_of_mem _ he)) hb
  have hi':i<N.length:=(List.getElem?_eq_some_iff.1 hi).1
  have hj':j<N.length:=(List.getElem?_eq_some_iff.1 hj).1
  have key:∀ v:Nat,Gv (fun s0 s1=>QY K x3 (E.map (We (N.map Qav))) s0 s1) (Q6 N lv) x4 (v:Int) ((i:Int),(j:Int),e.2.2)=if N.length<v then some ([],false) else if lv e.1<v then QY K x3 (E.map (We (N.map Qav))) (Q6 N (QrD lv e.1 v)) false else QY K x3 (E.map (We (N.map Qav))) (Q6 N lv) x4:=by
   intro v
   rw [Gv]
   simp only
   rw [JM,YS hi',QuW hi,Int.toNat_natCast,Qyc hn hi,JM]
   simp only [Bool.and_true,cond_true]
   by_cases h1:N.length<v
   ·rw [if_pos h1,decide_eq_true (show (N.length:Int)<(v:Int) by omega),cond_true]
    cases decide ((lv e.1:Int)<(v:Int))<;>rfl
   ·rw [if_neg h1,decide_eq_false (show ¬ (N.length:Int)<(v:Int) by omega),cond_false]
    by_cases h2:lv e.1<v
    ·rw [if_pos h2,decide_eq_true (show (lv e.1:Int)<(v:Int) by omega)];rfl
    ·rw [if_neg h2,decide_eq_false (show ¬ (lv e.1:Int)<(v:Int) by omega)];rfl
  rw [List.map_cons,QY,We,QoY hn hi,QoY hn hj]
  simp only
  rw [JM,YS hj',QuW hj]
  simp only [Bool.and_true,cond_true]
  have hbj:=hb e.2.1
  rw [QoZ (by omega),key,key,Vo]
  have hw:(bif e.2.2 then (if N.length<lv e.2.1+1 then some ([],false) else if lv e.1<lv e.2.1+1 then QY K x3 (E.map (We (N.map Qav))) (Q6 N (QrD lv e.1 (lv e.2.1+1))) false else QY K x3 (E.map (We (N.map Qav))) (Q6 N lv) x4)
    else (if N.length<lv e.2.1 then some ([],false) else if lv e.1<lv e.2.1 then QY K x3 (E.map (We (N.map Qav))) (Q6 N (QrD lv e.1 (lv e.2.1))) false else QY K x3 (E.map (We (N.map Qav))) (Q6 N lv) x4))
    = if N.length<lv e.2.1+wt e.2.2 then some ([],false) else if lv e.1<lv e.2.1+wt e.2.2 then QY K x3 (E.map (We (N.map Qav))) (Q6 N (QrD lv e.1 (lv e.2.1+wt e.2.2))) false else QY K x3 (E.map (We (N.map Qav))) (Q6 N lv) x4:=by
   cases e.2.2<;>rfl
  rw [hw]
  by_cases h1:N.length<lv e.2.1+wt e.2.2
  ·rw [if_pos h1,if_pos h1]
  ·rw [if_neg h1,if_neg h1]
   by_cases h2:lv e.1<lv e.2.1+wt e.2.2
   ·rw [if_pos h2,if_pos h2,ih _ _ fun x=>?_]
    ·rfl
    ·by_cases hx:x=e.1
     ·subst hx;rw [H7];omega
     ·rw [Uz _ _ hx];exact hb x
   ·rw [if_neg h2,if_neg h2,ih _ _ hb]
def QBJ (N:List Qi):Option (Qi→Nat)→List Qh × Bool | none=>([],false) | some lv=>(Q6 N lv,true)
theorem Qo0 {N:List Qi} (hn:N.Nodup) (hN:N.length≤288) {E:List (Xq Qi)} (hlen:E.length≤maxLen) (hE:∀ e∈E,e.1∈N∧e.2.1∈N):∀ (k m c:Nat) (lv:Qi→Nat),(∀ x,lv x≤N.length)→c+k=N.length+2→k<m →
  YA (E.map (We (N.map Qav))) m (Q6 N lv) (c:Int)=some (QBJ N (W4 N.length E k lv))
 | k,0,c,lv,_,_,h=>absurd h (Nat.not_lt_zero _)
 | 0,m+1,c,lv,_,h,_=>by
  rw [YA,JM,QoZ (by omega),decide_eq_false (show ¬ (c:Int)≤((N.length+1:Nat):Int) by omega)];rfl
 | k+1,m+1,c,lv,hb,h,hm=>by
  rw [YA,JM,QoZ (by omega),decide_eq_true (show (c:Int)≤((N.length+1:Nat):Int) by omega),Qw (by rw [List.length_map];exact hlen),cond_true,QqZ hn hN _ _ E lv true hE hb,W4,Bool.not_true,QoZ (by omega)]
  cases hp:Vo N.length E lv false with
  | none=>rfl
  | some r =>
   obtain ⟨lv',t⟩:=r
   cases t with
   | false=>rfl
   | true =>
    simp only [cond_true]
    exact Qo0 hn hN hlen hE k m (c+1) lv' (Xw hp hb) (by omega) (by omega)
theorem Qts {s:Qa} (hg:SchGood s):(Qbo s).length≤maxLen:=by
 have h:=Qc5 (f:=QkN s) (m:=3336) (l:=s.2) fun t ht=>Qtr hg ht
 have:=hg.nt
 unfold Qbo maxLen
 omega
theorem Qdx {s:Qa} (hg:SchGood s):Q8 s=some (QBJ (QH s) (W4 (QH s).length (Qbo s) ((QH s).length+2) fun _=>0)):=by
 have hN:=W7 hg
 refine XD ⟨(QH s).length+3,fun m hm=>?_⟩
 show Qdb m s=_
 unfold Qdb
 rw [Qto hg.toSchLen (by omega),Option.bind_some,QkO hg (by rw [List.length_map];unfold maxLen;omega),Option.bind_some]
 exact Qo0 (QkM hg) hN (Qts hg) (Qfo hg) ((QH s).length+2) m 0 (fun _=>0) (fun _=>Nat.zero_le _) (by omega) (by omega)
theorem Qtt {α:Type} (f:Qi→α) (z:α) {x:Qi}:∀ {N:List Qi},x∈N→JW Qs (N.map fun n=>(n,f n)) x z=f x
 | a::N,h=>by
  rw [List.map_cons,JW]
  by_cases he:x=a
  ·rw [show @decide (x=(a,f a).1) (Ty.decEq Qs x (a,f a).1)=true from @decide_eq_true _ (Ty.decEq Qs x (a,f a).1) he,cond_true,he]
  ·rw [show @decide (x=(a,f a).1) (Ty.decEq Qs x (a,f a).1)=false from @decide_eq_false _ (Ty.decEq Qs x (a,f a).1) he,cond_false]
   exact Qtt f z ((List.mem_cons.1 h).resolve_left he)
theorem Qtu {α:Type} (f:Qi→α) {x:Qi} (y:α):∀ {N:List Qi},x∉N→H9 Qs (N.map fun n=>(n,f n)) x y=(N.map fun n=>(n,f n))++[(x,y)]
 | [],_=>rfl
 | a::N,h=>by
  have he:x≠a:=fun e=>h (by rw [e];exact List.mem_cons_self)
  rw [List.map_cons,H9,show @decide (x=(a,f a).1) (Ty.decEq Qs x (a,f a).1)=false from @decide_eq_false _ (Ty.decEq Qs x (a,f a).1) he,cond_false,Qtu f y fun h'=>h (List.mem_cons_of_mem _ h')]
  rfl
theorem Qw9 {α:Type} {f g:Qi→α} {x:Qi}:∀ {N:List Qi},N.Nodup→x∈N→(∀ n,n≠x→g n=f n)→H9 Qs (N.map fun n=>(n,f n)) x (g x)=N.map fun n=>(n,g n)
 | a::N,hn,h,hg=>by
  obtain ⟨h1,h2⟩:=List.nodup_cons.1 hn
  rw [List.map_cons,H9,List.map_cons]
  by_cases he:x=a
  ·rw [show @decide (x=(a,f a).1) (Ty.decEq Qs x (a,f a).1)=true from @decide_eq_true _ (Ty.decEq Qs x (a,f a).1) he,cond_true,he]
   congr 1
   refine List.map_congr_left fun n hm=>?_
   rw [hg n fun e=>h1 (by rw [← he,← e];exact hm)]
  ·rw [show @decide (x=(a,f a).1) (Ty.decEq Qs x (a,f a).1)=false from @decide_eq_false _ (Ty.decEq Qs x (a,f a).1) he,cond_false,Qw9 h2 ((List.mem_cons.1 h).resolve_left he) hg,hg a fun e=>he e.symm]
def Qaw (N:List Qi) (lv:Qi→Nat):List (Qi × Int):=N.map fun n=>(n,((lv n:Nat):Int))
theorem QuX {N:List Qi} (hn:N.Nodup) {lv:Qi→Nat} {x:Qi} (h:x∈N) (v:Nat):H9 Qs (Qaw N lv) x (v:Int)=Qaw N (QrD lv x v):=by
 have:=Qw9 (f:=fun n=>((lv n:Nat):Int)) (g:=fun n=>((QrD lv x v n:Nat):Int)) hn h fun n hne=>by rw [Uz _ _ hne]
 simp only [H7] at this
 exact this
theorem Qqk {N:List Qi} {lv:Qi→Nat} {x:Qi} (h:x∈N):JW Qs (Qaw N lv) x 0=((lv x:Nat):Int):=Qtt (fun n=>((lv n:Nat):Int)) 0 h
theorem Qo1 {N:List Qi} (hn:N.Nodup) (hN:N.length≤288) (K:Bool→List (Qi × Int)→Option (List (Qi × Int) × Bool)) {x:Qi} (hx:x∈N):∀ (l:List Qy) (lv:Qi→Nat) (t:Bool),(∀ e∈l,e.1∈N)→(∀ x,lv x≤N.length) →
  QR K N x l t (Qaw N lv)=match Vo N.length (l.map (Gk x)) lv t with
   | none=>some ([],false)
   | some (lv',t')=>K t' (Qaw N lv')
 | [],lv,t,_,_=>by rw [QR];rfl
 | e::l,lv,t,hl,hb=>by
  have he:=hl e List.mem_cons_self
  have hbe:=hb e.1
  have ih:=fun lv t hb=>Qo1 hn hN K hx l lv t (fun e he=>hl e (List.mem_cons_of_mem _ he)) hb
  rw [QR,Qqk hx,Qqk he,QoZ (by omega),QuX hn hx,QuX hn hx,List.map_cons,Vo]
  have key:∀ v:Nat,(bif decide ((lv x:Int)<(v:Int)) then bif decide ((N.length:Int)<(v:Int)) then some (([]:List (Qi × Int)),false) else QR K N x l true (Qaw N (QrD lv x v)) else bif decide ((N.length:Int)<(v:Int)) then some (([]:List (Qi × Int)),false) else QR K N x l t (Qaw N lv))
    = match (if N.length<v then none else if lv x<v then Vo N.length (l.map (Gk x)) (QrD lv x v) true else Vo N.length (l.map (Gk x)) lv t) with
     | none=>some ([],false)
     | some (lv',t')=>K t' (Qaw N lv'):=by
   intro v
   by_cases h1:N.length<v
   ·rw [if_pos h1,decide_eq_true (show (N.length:Int)<(v:Int) by omega)]
    cases decide ((lv x:Int)<(v:Int))<;>rfl
   ·rw [if_neg h1,decide_eq_false (show ¬ (N.length:Int)<(v:Int) by omega)]
    by_cases h2:lv x<v
    ·rw [if_pos h2,decide_eq_true (show (lv x:Int)<(v:Int) by omega),cond_true,cond_false,ih _ _ fun y=>?_]
     by_cases hy:y=x
     ·subst hy;rw [H7];omega
     ·rw [Uz _ _ hy];exact hb y
    ·rw [if_neg h2,decide_eq_false (show ¬ (lv x:Int)<(v:Int) by omega),cond_false,cond_false,ih _ _ hb]
  rw [key,key]
  unfold Gk
  simp only
  cases e.2<;>rfl
def QkP (s:Qa) (N:List Qi):List (Qi × List Qy):=N.map fun n=>(n,Gj s n)
theorem Qmf {s:Qa} {N:List Qi} (hn:N.Nodup) (hN:N.length≤288) (hL:∀ n∈N,(Gj s n).length≤maxLen∧∀ e∈Gj s n,e.1∈N) (K:Bool→List (Qi × Int)→Option (List (Qi × Int) × Bool)):∀ (l:List Qi) (lv:Qi→Nat) (t:Bool),(∀ n∈l,n∈N)→(∀ x,lv x≤N.length) →
  ZU K N (QkP s N) l t (Qaw N lv)=match Vo N.length (l.flatMap fun n=>(Gj s n).map (Gk n)) lv t with
   | none=>some ([],false)
   | some (lv',t')=>K t' (Qaw N lv')
 | [],lv,t,_,_=>by rw [ZU];rfl
 | n::l,lv,t,hl,hb=>by
  have hnN:=hl n List.mem_cons_self
  obtain ⟨h1,h2⟩:=hL n hnN
  rw [ZU,show JW Qs (QkP s N) n ([]:List Qy)=Gj s n from Qtt (Gj s) [] hnN,Qw h1,Qo1 hn hN _ hnN _ _ _ h2 hb,List.flatMap_cons,Qif]
  cases hp:Vo N.length ((Gj s n).map (Gk n)) lv t with
  | none=>rfl
  | some r =>
   obtain ⟨lv',t'⟩:=r
   simp only
   exact Qmf hn hN hL K l lv' t' (fun n hn=>hl n (List.mem_cons_of_mem _ hn)) (Xw hp hb)
def QBf (N:List Qi):Option (Qi→Nat)→List (Qi × Int) × Bool | none=>([],false) | some lv=>(Qaw N lv,true)
theorem Qmg {s:Qa} {N:List Qi} (hn:N.Nodup) (hN:N.length≤288) (hL:∀ n∈N,(Gj s n).length≤maxLen∧∀ e∈Gj s n,e.1∈N):∀ (m:Nat) (t:Bool) (lv:Qi→Nat),(∀ x,lv x≤N.length) →
  Zq N (QkP s N) m t (Qaw N lv)=(Qdr N.length (N.flatMap fun n=>(Gj s n).map (Gk n)) m t lv).map (QBf N)
 | 0,_,_,_=>rfl
 | m+1,t,lv,hb=>by
  rw [Zq,Qdr]
  cases t with
  | false=>rfl
  | true =>
   rw [cond_true,if_pos rfl,Qw (by unfold maxLen;omega),Qmf hn hN hL _ _ _ _ (fun _ h=>h) hb]
   cases hp:Vo N.length (N.flatMap fun n=>(Gj s n).map (Gk n)) lv false with
   | none=>rfl
   | some r =>
    obtain ⟨lv',t'⟩:=r
    simp only
    exact Qmg hn hN hL m t' lv' (Xw hp hb)
theorem QkQ {N:List Qi} (m:Nat) (M:List (Qi × List Qy)):∀ (l pre:List Qi),(pre++l).Nodup →
  Zr m N M l (Qaw pre fun _=>0)=Zq N M m true (Qaw (pre++l) fun _=>0)
 | [],pre,_=>by rw [Zr,List.append_nil]
 | n::l,pre,hn=>by
  have h1:n∉pre:=fun h=>(List.nodup_append.1 hn).2.2 n h n List.mem_cons_self rfl
  rw [Zr,show H9 Qs (Qaw pre fun _=>0) n 0=Qaw (pre++[n]) fun _=>0 from (Qtu (fun _=>((0:Nat):Int)) 0 h1).trans (by rw [Qaw,List.map_append];rfl),QkQ m M l (pre++[n]) (by rw [List.append_assoc];exact hn),List.append_assoc]
  rfl
theorem QiT {s:Qa} (hg:SchGood s) (m:Nat):∀ (l pre:List Qi),(∀ n∈l,n∈QH s)→(pre++l).Nodup →
  Z5 m (QH s) s l (QkP s pre)=Zr m (QH s) (QkP s (pre++l)) (QH s) []
 | [],pre,_,_=>by
  have:=W7 hg
  rw [Z5,List.append_nil,Qw (by unfold maxLen;omega)]
 | n::l,pre,hl,hn=>by
  have h1:n∉pre:=fun h=>(List.nodup_append.1 hn).2.2 n h n List.mem_cons_self rfl
  rw [Z5,(Qgx hg (hl n List.mem_cons_self)).1,Option.bind_some,show H9 Qs (QkP s pre) n (Gj s n)=QkP s (pre++[n]) from (Qtu (Gj s) _ h1).trans (by rw [QkP,List.map_append];rfl),QiT hg m l (pre++[n]) (fun n hn=>hl n (List.mem_cons_of_mem _ hn)) (by rw [List.append_assoc];exact hn),List.append_assoc]
  rfl
theorem QiU {s:Qa} (hg:SchGood s):∃ b,QT s=some (QBf (QH s) b)∧(b.isSome=true↔∃ L,XT (Qbo s) L)∧∃ m,Qdr (QH s).length (Qal s) m true (fun _=>0)=some b:=by
 have hN:=W7 hg
 have hn:=QkM hg
 have hE:∀ e∈Qal s,e.1∈QH s∧e.2.1∈QH s:=fun e he=>Qfo hg e ((Qam hg e).1 he)
 have hL:∀ n∈QH s,(Gj s n).length≤maxLen∧∀ e∈Gj s n,e.1∈QH s:=fun n hn=>⟨by
  have:=(Qgx hg hn).2
  unfold maxLen;omega,fun e he=>(hE (Gk n e) (List.mem_flatMap.2 ⟨n,hn,List.mem_map_of_mem he⟩)).2⟩
 obtain ⟨b,h1,h2⟩:=Qzv hE ((QH s).length*(QH s).length) (fun _=>0) (fun _=>Nat.zero_le _) (Nat.le_add_left _ _) fun _ _ _ _=>Nat.zero_le _
 refine ⟨b,XD ⟨(QH s).length*(QH s).length+2,fun m hm=>?_⟩,h2.trans (Qx6 (Qam hg)),_,h1 _ (Nat.le_refl _)⟩
 show HF m s=_
 unfold HF
 rw [Qgw hg.toSchLen (by omega),Option.bind_some,Qw (by unfold maxLen;omega)]
 refine (QiT hg m (QH s) [] (fun _ h=>h) hn).trans ((QkQ m _ (QH s) [] hn).trans ?_)
 rw [List.nil_append]
 refine (Qmg hn hN hL m true (fun _=>0) fun _=>Nat.zero_le _).trans ?_
 rw [show ((QH s).flatMap fun n=>(Gj s n).map (Gk n))=Qal s from rfl,h1 m hm];rfl
theorem Qtv {s:Qa} (hg:SchGood s):∃ b,QT s=some (QBf (QH s) b)∧(b.isSome=true↔∃ L,XT (Qbo s) L) :=
 let ⟨b,h1,h2,_⟩:=QiU hg;⟨b,h1,h2⟩
theorem Qnu {s:Qa} (hs:SchBd s):∃ b,QU s=some b∧Z8 s=some b:=by
 rw [WN hs,QkL hs]
 cases h:Qma s with
 | false=>exact ⟨_,rfl,rfl⟩
 | true =>
  have hg:=QyK hs h
  obtain ⟨b,h1,h2⟩:=Qtv hg
  have h3:=Qx5 (Qfo hg) (k:=(QH s).length+2) (by omega)
  rw [Qdx hg,h1]
  refine ⟨_,rfl,?_⟩
  show some (QBf (QH s) b).2=some (QBJ (QH s) _).2
  generalize W4 (QH s).length (Qbo s) ((QH s).length+2) (fun _=>0)=c at h3
  have h4:=h2.trans h3.symm
  cases b<;>cases c
  ·rfl
  ·exact absurd (h4.2 rfl) (by decide)
  ·exact absurd (h4.1 rfl) (by decide)
  ·rfl
end
end Go.Ab
