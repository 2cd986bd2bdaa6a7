import Derived.Test.YtkabjoifaffddaaGreatTplA
import Derived.Test.YtkabjoifaffddaaGreatAfA
namespace Go.Ab
open Go.Proofs
noncomputable section
theorem Qql {s:Qa} (hs:SchBd s) (h:QU s=some true):SchGood s:=by
 rw [WN hs] at h
 cases hk:Qma s with
 | true=>exact QyK hs hk
 | false=>rw [hk] at h;cases h
theorem Qxd {s:Qa} (hs:SchBd s) (h:QU s=some true):∃ lv:Qi→Nat,(∀ x,lv x≤(QH s).length)∧Q8 s=some (Q6 (QH s) lv,true)∧QT s=some (Qaw (QH s) lv,true):=by
 have hg:=Qql hs h
 have h0:=h
 rw [WN hs,Qdx hg] at h
 have hk:Qma s=true:=by
  cases hk:Qma s with
  | true=>rfl
  | false=>rw [hk] at h;cases h
 rw [hk] at h
 simp only [cond_true,Option.bind_some,Option.some.injEq] at h
 cases hr:W4 (QH s).length (Qbo s) ((QH s).length+2) fun _=>0 with
 | none=>rw [hr] at h;cases h
 | some lv =>
  obtain ⟨s1,s2,s3⟩:=Qih hr fun _=>Nat.zero_le _
  have hE:∀ e∈Qal s,e.1∈QH s∧e.2.1∈QH s:=fun e he=>Qfo hg e ((Qam hg e).1 he)
  obtain ⟨b,i1,i2⟩:=QiU hg
  have hb:b.isSome=true:=i2.1.2 ⟨lv,s1⟩
  cases b with
  | none=>cases hb
  | some lv' =>
   obtain ⟨m,hm⟩:=i2.2
   obtain ⟨t1,t2,t3⟩:=QqT hm (fun _=>Nat.zero_le _) (fun e=>by cases e)
   have e1:lv=lv':=by
    funext x
    refine Nat.le_antisymm (s3 lv' (fun e he=>t1 e ((Qam hg e).2 he)) (fun _=>Nat.zero_le _) x) (t3 lv (fun e he=>s1 e ((Qam hg e).1 he)) (fun _=>Nat.zero_le _) x)
   subst e1
   exact ⟨lv,s2,by rw [Qdx hg,hr];rfl,i1⟩
theorem Qv2 (x y:List Int) (lv:Qi→Nat):∀ (N:List Qi) (k:Nat),atL x y (Q6 N lv) k=atL x y (N.map Qav) k
 | [],_=>rfl
 | n::N,k=>by
  rw [Q6,List.map_cons,List.map_cons,atL,atL,← Q6,Qv2 x y lv N (k+1)]
  rfl
theorem QAI (lv:Qi→Nat) (N:List Qi):We (Q6 N lv)=We (N.map Qav):=by
 funext e
 unfold We atI
 rw [Qv2,Qv2]
theorem QAJ (x y:List Int):∀ (l:List Qh) (k:Nat),decide (0≤atL x y l k)=l.any fun d=>decide (d.1=x∧d.2.1=y)
 | [],_=>rfl
 | d::l,k=>by
  rw [atL,List.any_cons,← QAJ x y l (k+1)]
  by_cases h:d.1=x∧d.2.1=y
  ·rw [if_pos h,decide_eq_true h,decide_eq_true (by omega)];rfl
  ·rw [if_neg h,decide_eq_false h,Bool.false_or]
def inL (N:List Qi) (f:Qi→Bool):List Bool:=N.map f
theorem Qv3 (N:List Qi) (f:Qi→Bool):(inL N f).length=N.length:=List.length_map _
theorem Qye {N:List Qi} {f:Qi→Bool} {n:Qi} {i:Nat} (h:N[i]? = some n) (d:Bool):rd (inL N f) (i:Int) d=f n :=
 QkG (by rw [inL,List.getElem?_map,h];rfl)
theorem Qv4 {N:List Qi} (hn:N.Nodup) {f:Qi→Bool} {n:Qi} {i:Nat} (h:N[i]? = some n) (v:Bool):(inL N f).set i v=inL N (Qds f n v):=by
 have hi:i<N.length:=(List.getElem?_eq_some_iff.1 h).1
 refine List.ext_getElem? fun j=>?_
 rw [List.getElem?_set]
 by_cases hj:i=j
 ·subst hj
  rw [if_pos rfl,Qv3,if_pos hi,inL,List.getElem?_map,h,Option.map_some,Qf9]
 ·rw [if_neg hj,inL,inL,List.getElem?_map,List.getElem?_map]
  cases hm:N[j]? with
  | none=>rfl
  | some m =>
   rw [Option.map_some,Option.map_some,Qbn _ _ fun e=>hj ((List.getElem?_inj hi hn).1 (by rw [h,hm,e]))]
theorem Qq1 {α:Type} [DecidableEq α] (f:α→Bool) (n:α) {v:Bool} (h:f n=v):Qds f n v=f:=by
 funext x
 unfold Qds
 split
 ·rename_i e;rw [e,h]
 ·rfl
theorem Qxe {N:List Qi} (hn:N.Nodup) (K:List Bool→Option (List Qh)):∀ (E:List (Xq Qi)) (f:Qi→Bool),(∀ e∈E,e.1∈N∧e.2.1∈N) →
  YK K (E.map (We (N.map Qav))) (inL N f)=K (inL N (VK E f false).1)
 | [],f,_=>rfl
 | e::E,f,hE=>by
  obtain ⟨⟨i,hi⟩,⟨j,hj⟩⟩:=(⟨List.getElem?_of_mem (hE e List.mem_cons_self).1,List.getElem?_of_mem (hE e List.mem_cons_self).2⟩:(∃ i,N[i]? = some e.1)∧∃ j,N[j]? = some e.2.1)
  have ih:=fun f=>Qxe hn K E f fun e he=>hE e (List.mem_cons_of_mem _ he)
  have hi':i<N.length:=(List.getElem?_eq_some_iff.1 hi).1
  have hj':j<N.length:=(List.getElem?_eq_some_iff.1 hj).1
  rw [List.map_cons,YK,We,QoY hn hi,QoY hn hj]
  simp only
  rw [Qv3,YS hi',YS hj',Qye hi,Qye hj,Int.toNat_natCast,Qv4 hn hi,Qv4 hn hi,ih,ih,VK]
  simp only [Bool.and_true,cond_true]
  cases h1:f e.1 with
  | true =>
   rw [Qq1 f e.1 h1,if_neg (fun h=>by cases h.2)];rfl
  | false =>
   cases h2:f e.2.1 with
   | true=>rw [if_pos ⟨rfl,rfl⟩,Qtd true false];rfl
   | false=>rw [Qq1 f e.1 h1,if_neg (fun h=>by cases h.1)];rfl
theorem Qqm {N:List Qi} (hN:N.length≤288) (f:Qi→Bool) (lv:Qi→Nat):∀ (r:List Qi) (k:Nat) (acc:List Qh),r=N.drop k→acc.length+r.length≤3000000 →
  JZ (inL N f) (Q6 r lv) k acc=some (acc++(Q6 r lv).filter fun d=>f (d.1,d.2.1))
 | [],_,acc,_,_=>by rw [Q6,List.map_nil,JZ];simp
 | n::r,k,acc,h,hl=>by
  obtain ⟨hk,hn,hr⟩:=Qlf h
  simp only [List.length_cons] at hl
  rw [Q6,List.map_cons,← Q6,JZ,Qv3,YS hk,Qye hn,Qqm hN f lv r (k+1) acc hr (by omega),QbI (by omega) (by omega) (by omega),Qqm hN f lv r (k+1) _ hr (by simp;omega),List.filter_cons]
  cases hf:f n<;>simp [hf]
theorem Qu1 {N:List Qi} (hn:N.Nodup) (hN:N.length≤288) {E:List (Xq Qi)} (hE:∀ e∈E,e.1∈N∧e.2.1∈N) (hlen:E.length≤maxLen) (lv:Qi→Nat):∀ (r:List Qh) (f:Qi→Bool),
  YL (Q6 N lv) (E.map (We (N.map Qav))) r (inL N f)=some ((Q6 N lv).filter fun d=>QcA E r.length f (d.1,d.2.1))
 | [],f=>by
  rw [YL,Qw (by rw [JM];unfold maxLen;omega),Qqm hN f lv N 0 [] rfl (by simp;omega)];rfl
 | _::r,f=>by
  rw [YL,Qw (by rw [List.length_map];exact hlen),Qxe hn _ E f hE,Qu1 hn hN hE hlen lv r];rfl
def Qq2 (s:Qa) (a:Qi):Qi→Bool:=QcA (Qbo s) (QH s).length fun z=>decide (z=a)
theorem Qqn {s:Qa} (hs:SchBd s) (h:QU s=some true) {lv:Qi→Nat} (hlv:Q8 s=some (Q6 (QH s) lv,true)) {a:Qi} (ha:a∈QH s) :
  H0 s a.1 a.2=some ((Q6 (QH s) lv).filter fun d=>Qq2 s a (d.1,d.2.1)):=by
 have hg:=Qql hs h
 have hN:=W7 hg
 have hn:=QkM hg
 have hl:(Q6 (QH s) lv).length≤maxLen:=by rw [JM];unfold maxLen;omega
 obtain ⟨i,hi⟩:=List.getElem?_of_mem ha
 have hi':i<(QH s).length:=(List.getElem?_eq_some_iff.1 hi).1
 have hat:atI (Q6 (QH s) lv) (a.1,a.2)=(i:Int):=by
  unfold atI;rw [Qv2];exact QoY hn hi
 rw [H0,h,Option.bind_some,hlv]
 simp only [Bool.not_true,cond_false,Option.bind_some]
 rw [Ud hl,Option.bind_some,hat,decide_eq_false (show ¬ (i:Int)<0 by omega)]
 simp only [cond_false,Int.toNat_natCast,List.length_replicate]
 rw [YS (by rw [JM];exact hi'),QkO hg hl,Option.bind_some,Qw hl,QAI,decide_eq_true (show (0:Int)≤((Q6 (QH s) lv).length:Int) by omega),decide_eq_true (show ((Q6 (QH s) lv).length:Int)*1≤Q4 by rw [Xf,JM];omega)]
 simp only [decide_true,Bool.and_true,cond_true]
 have hrep:(List.replicate (Q6 (QH s) lv).length false).set i true=inL (QH s) (fun z=>decide (z=a)):=by
  have h1:List.replicate (Q6 (QH s) lv).length false=inL (QH s) (fun _=>false):=by
   rw [JM,inL,List.map_const']
  rw [h1,Qv4 hn hi]
  congr 1
 rw [hrep,Qu1 hn hN (Qfo hg) (Qts hg) lv,JM]
 rfl
theorem Qu2 {s:Qa} (hg:SchGood s) {a:Qi} (ha:a∈QH s) (x:Qi):Qq2 s a x=true↔QkB (Qbo s) (fun z=>decide (z=a)) x:=Qt6 (fun e he=>(Qfo hg e he).1) ha (decide_eq_true rfl) x
def Xe (w:Q5):Qi:=(w.2.1,w.2.2.2.1)
def QlN (s:Qa) (ws:List Q5) (x:Qi):Bool:=ws.any fun w=>Qq2 s (Xe w) x
theorem Qxf {s:Qa} (hs:SchBd s) (h:QU s=some true) {lv:Qi→Nat} (hlv:Q8 s=some (Q6 (QH s) lv,true)) (K:List Qh→Option (List Qh)) (acc:List Qh) (hacc:acc.length≤3000000) {n:Qi} (hn:n∈QH s) (v:Int) (hm:(n.1,n.2,v)∈Q6 (QH s) lv):∀ (ws:List Q5) (x:Bool),(∀ w∈ws,Xe w∈QH s) →
  J0 K acc s (n.1,n.2,v) ws x=bif x||QlN s ws n then K (acc++[(n.1,n.2,v)]) else K acc
 | [],x,_=>by
  rw [J0,QbI hacc (by omega) (by omega),QlN,List.any_nil,Bool.or_false];rfl
 | w::ws,x,hw=>by
  have hg:=Qql hs h
  have hN:=W7 hg
  have ih:=fun x=>Qxf hs h hlv K acc hacc hn v hm ws x fun w hw'=>hw w (List.mem_cons_of_mem _ hw')
  have hdep:=Qqn hs h hlv (hw w List.mem_cons_self)
  have hlen:((Q6 (QH s) lv).filter fun d=>Qq2 s (Xe w) (d.1,d.2.1)).length≤maxLen:=Nat.le_trans (List.length_filter_le _ _) (by rw [JM];unfold maxLen;omega)
  unfold Xe at hdep
  rw [J0,hdep,Option.bind_some,ih,Ud (show (List.filter (fun d=>Qq2 s (w.2.1,w.2.2.2.1) (d.1,d.2.1)) (Q6 (QH s) lv)).length≤maxLen from hlen),Option.bind_some,ih,show QlN s (w::ws) n=(Qq2 s (Xe w) n||QlN s ws n) from rfl]
  cases x with
  | true=>rfl
  | false =>
   simp only [cond_false,Bool.false_or]
   rw [atI,QAJ]
   have:((Q6 (QH s) lv).filter fun d=>Qq2 s (w.2.1,w.2.2.2.1) (d.1,d.2.1)).any (fun d=>decide (d.1=n.1∧d.2.1=n.2))=Qq2 s (Xe w) n:=by
    rw [Bool.eq_iff_iff,List.any_eq_true]
    constructor
    ·rintro ⟨d,hd,he⟩
     obtain ⟨h1,h2⟩:=of_decide_eq_true he
     have:=(List.mem_filter.1 hd).2
     rw [h1,h2] at this
     exact this
    ·intro hd
     exact ⟨_,List.mem_filter.2 ⟨hm,hd⟩,decide_eq_true ⟨rfl,rfl⟩⟩
   rw [this]
theorem Qqo {s:Qa} (hs:SchBd s) (h:QU s=some true) {lv:Qi→Nat} (hlv:Q8 s=some (Q6 (QH s) lv,true)) {ws:List Q5} (hw:∀ w∈ws,Xe w∈QH s) (hwl:ws.length≤maxLen):∀ (r:List Qi) (acc:List Qh),(∀ n∈r,n∈QH s)→acc.length+r.length≤3000000 →
  YM ws s (Q6 r lv) acc=some (acc++(Q6 r lv).filter fun d=>QlN s ws (d.1,d.2.1))
 | [],acc,_,_=>by rw [Q6,List.map_nil,YM];simp
 | n::r,acc,hr,hl=>by
  simp only [List.length_cons] at hl
  have hn:=hr n List.mem_cons_self
  rw [Q6,List.map_cons,← Q6,YM,Qw hwl,Qxf hs h hlv _ acc (by omega) hn _ (List.mem_map.2 ⟨n,hn,rfl⟩) ws false hw,Bool.false_or,Qqo hs h hlv hw hwl r acc (fun n hn=>hr n (List.mem_cons_of_mem _ hn)) (by omega),Qqo hs h hlv hw hwl r _ (fun n hn=>hr n (List.mem_cons_of_mem _ hn)) (by simp;omega),List.filter_cons]
  cases hh:QlN s ws n<;>simp [hh]
theorem Qo4 {s:Qa} (hs:SchBd s) (h:QU s=some true) {lv:Qi→Nat} (hlv:Q8 s=some (Q6 (QH s) lv,true)) {ws:List Q5} (hw:∀ w∈ws,Xe w∈QH s) (hwl:ws.length≤maxLen) :
  Hr s ws=some ((Q6 (QH s) lv).filter fun d=>QlN s ws (d.1,d.2.1)):=by
 have hN:=W7 (Qql hs h)
 rw [Hr,hlv,Option.bind_some]
 simp only
 rw [Qw (by rw [JM];unfold maxLen;omega),Qqo hs h hlv hw hwl _ [] (fun _ h=>h) (by simp;omega)]
 rfl
def Qzz:List Q5→List Q5→List Q5 | acc,[]=>acc | acc,w::r=>Qzz (bif acc.any (fun e=>decide (Xe e=Xe w)) then acc else acc++[w]) r
theorem QtC:∀ (r acc:List Q5) (n:Qi),(∃ w∈Qzz acc r,Xe w=n)↔(∃ w∈acc,Xe w=n)∨∃ w∈r,Xe w=n
 | [],acc,n=>by simp [Qzz]
 | w::r,acc,n=>by
  rw [Qzz,QtC r _ n]
  cases h:acc.any (fun e=>decide (Xe e=Xe w)) with
  | true =>
   obtain ⟨e,he,h2⟩:=List.any_eq_true.1 h
   have h2:=of_decide_eq_true h2
   simp only [cond_true,List.mem_cons,exists_eq_or_imp]
   constructor
   ·rintro (h | h)
    ·exact .inl h
    ·exact .inr (.inr h)
   ·rintro (h | h | h)
    ·exact .inl h
    ·exact .inl ⟨e,he,h2.trans h⟩
    ·exact .inr h
  | false =>
   simp only [cond_false,List.mem_append,List.mem_cons,List.not_mem_nil,or_false,exists_eq_or_imp]
   constructor
   ·rintro (⟨e,he | rfl,h2⟩ | h)
    ·exact .inl ⟨e,he,h2⟩
    ·exact .inr (.inl h2)
    ·exact .inr (.inr h)
   ·rintro (⟨e,he,h2⟩ | h | h)
    ·exact .inl ⟨e,.inl he,h2⟩
    ·exact .inl ⟨w,.inr rfl,h⟩
    ·exact .inr h
theorem Qo5 (K:List Q5→Option (List Qh)) (acc:List Q5) (hacc:acc.length≤3000000) (w:Q5):∀ (r:List Q5) (x:Bool),
  JA K acc w r x=K (bif x||r.any (fun e=>decide (Xe e=Xe w)) then acc else acc++[w])
 | [],x=>by
  rw [JA,QbI hacc (by omega) (by omega),List.any_nil,Bool.or_false]
  cases x<;>rfl
 | e::r,x=>by
  rw [JA,Qo5 K acc hacc w r,Qo5 K acc hacc w r,Qo5 K acc hacc w r,List.any_cons]
  have:decide (Xe e=Xe w)=(decide (e.2.1=w.2.1)&&decide (e.2.2.2.1=w.2.2.2.1)):=by
   rw [Bool.eq_iff_iff]
   simp only [decide_eq_true_eq,Bool.and_eq_true]
   unfold Xe
   constructor
   ·intro h;exact Prod.mk.inj h
   ·rintro ⟨h1,h2⟩;rw [h1,h2]
  rw [this]
  cases x<;>cases decide (e.2.1=w.2.1)<;>cases decide (e.2.2.2.1=w.2.2.2.1)<;>rfl
def okW (s:Qa) (w:Q5):Bool:=decide (1≤w.1)&&decide (w.1≤3)&&Qmi s w.2
theorem Qu3 {s:Qa} (hs:SchBd s) (h:QU s=some true) {lv:Qi→Nat} (hlv:Q8 s=some (Q6 (QH s) lv,true)):∀ (r acc:List Q5),(∀ w∈r,wfD QE w)→(∀ w∈acc,Xe w∈QH s)→acc.length+r.length≤3000000 →
  VO s r acc=bif r.all (okW s) then some ((Q6 (QH s) lv).filter fun d=>QlN s (Qzz acc r) (d.1,d.2.1)) else some []
 | [],acc,_,ha,hl=>by
  simp only [List.length_nil] at hl
  rw [VO,Qo4 hs h hlv ha (by unfold maxLen;omega)];rfl
 | w::r,acc,hw,ha,hl=>by
  simp only [List.length_cons] at hl
  have hww:wfD Vt w.2:=(hw w List.mem_cons_self).2
  rw [VO,Qub hs hww,Option.bind_some,Qw (by unfold maxLen;omega),Qo5 _ acc (by omega) w acc false,List.all_cons,okW,Bool.false_or]
  have e1:decide (w.1<1)=!decide (1≤w.1):=by grind
  have e2:decide ((3:Int)<w.1)=!decide (w.1≤3):=by grind
  rw [e1,e2]
  cases decide (1≤w.1) with
  | false=>rfl
  | true =>
   cases decide (w.1≤3) with
   | false=>rfl
   | true =>
    cases hf:Qmi s w.2 with
    | false=>rfl
    | true =>
     simp only [Bool.not_true,cond_false,Bool.and_true,Bool.true_and]
     rw [Qu3 hs h hlv r _ (fun w hw'=>hw w (List.mem_cons_of_mem _ hw')) (fun e he=>by
      cases hc:acc.any (fun e=>decide (Xe e=Xe w)) with
      | true=>rw [hc] at he;exact ha e he
      | false =>
       rw [hc] at he
       rcases List.mem_append.1 he with he | he
       ·exact ha e he
       ·rw [List.mem_singleton.1 he];exact Qu0 hf) (by cases acc.any (fun e=>decide (Xe e=Xe w))<;>simp<;>omega)]
     rfl
theorem QBh {s:Qa} (ws:List Q5) (x:Qi):QlN s (Qzz [] ws) x=QlN s ws x:=by
 unfold QlN
 rw [Bool.eq_iff_iff,List.any_eq_true,List.any_eq_true]
 constructor
 ·rintro ⟨w,hw,hx⟩
  rcases (QtC ws [] (Xe w)).1 ⟨w,hw,rfl⟩ with ⟨e,he,_⟩ | ⟨e,he,h2⟩
  ·cases he
  ·exact ⟨e,he,by rw [h2];exact hx⟩
 ·rintro ⟨w,hw,hx⟩
  obtain ⟨e,he,h2⟩:=(QtC ws [] (Xe w)).2 (.inr ⟨w,hw,rfl⟩)
  exact ⟨e,he,by rw [h2];exact hx⟩
end
end Go.Ab
