import Derived.Test.YtkabjoifaffddaaGreatAfE
namespace Go.Ab
open Go.Proofs
noncomputable section
def QoW (arr:Qz→List (List Int)) (t:List Int) (w:Qz) (ag:Bool):List Qy:=bif decide (w.1=1) then [((t,w.2.2),ag)] else bif decide (w.1=2) then ((t,w.2.1),ag)::(arr w).map (fun x=>((x,w.2.2),ag)) else []
def GO (arr:Qz→List (List Int)) (t:List Int) (b:List Qz):Nat→Nat→Bool→List Qy
 | 0,_,_=>[]
 | d+1,a,ag=>match b[a]? with
  | none=>[]
  | some w=>bif Qhy w then (match Jv b d (a+1) with
   | none=>[]
   | some p=>GO arr t b d (a+1) ag++GO arr t b d p.2 (ag||decide (w.1=5))) else QoW arr t w ag
theorem Qzx {arr:Qz→List (List Int)} {m:Nat} (h:∀ w,(arr w).length≤m) (t:List Int) (w:Qz) (ag:Bool):(QoW arr t w ag).length≤m+1:=by
 unfold QoW
 cases decide (w.1=1)<;>cases decide (w.1=2)<;>simp
 exact h w
theorem Qqf {arr:Qz→List (List Int)} {m:Nat} (h:∀ w,(arr w).length≤m) (t:List Int) (b:List Qz):∀ (d a:Nat) (ag:Bool) (q:Zt × Nat),Jv b d a=some q→(GO arr t b d a ag).length≤(q.2 - a)*(m+1)
 | 0,_,_,_,h=>by cases h
 | d+1,a,ag,q,hq=>by
  rw [Jv] at hq
  rw [GO]
  cases hw:b[a]? with
  | none=>exact Nat.zero_le _
  | some w =>
   rw [hw] at hq
   simp only at hq ⊢
   cases ho:Qhy w with
   | false =>
    rw [ho] at hq
    simp only [Bool.false_eq_true,if_false,Option.some.injEq] at hq
    subst hq
    simp only [cond_false]
    have:=Qzx h t w ag
    rw [Nat.add_sub_cancel_left,Nat.one_mul];exact this
   | true =>
    rw [ho] at hq
    simp only [if_true] at hq
    cases h1:Jv b d (a+1) with
    | none=>rw [h1] at hq;cases hq
    | some p =>
     rw [h1] at hq
     simp only at hq
     cases h2:Jv b d p.2 with
     | none=>rw [h2] at hq;cases hq
     | some p2 =>
      rw [h2] at hq
      cases hq
      simp only [cond_true,List.length_append]
      have l1:=Qqf h t b d (a+1) ag p h1
      have l2:=Qqf h t b d p.2 (ag||decide (w.1=5)) p2 h2
      have t1:=EK h1
      have t2:=EK h2
      have:(p.2 - (a+1))*(m+1)+(p2.2 - p.2)*(m+1)≤(p2.2 - a)*(m+1):=by
       rw [← Nat.add_mul];exact Nat.mul_le_mul_right _ (by omega)
      show _≤(p2.2 - a)*(m+1)
      omega
theorem Qzy {arr arr':Qz→List (List Int)} (h:∀ w x,x∈arr w↔x∈arr' w) (t:List Int) (w:Qz) (ag:Bool) (l:Qy):l∈QoW arr t w ag↔l∈QoW arr' t w ag:=by
 unfold QoW
 cases decide (w.1=1) with
 | true=>rfl
 | false =>
  cases decide (w.1=2) with
  | false=>rfl
  | true =>
   simp only [cond_false,cond_true,List.mem_cons,List.mem_map,h]
theorem Qqg {arr arr':Qz→List (List Int)} (h:∀ w x,x∈arr w↔x∈arr' w) (t:List Int) (b:List Qz) (l:Qy):∀ (d a:Nat) (ag:Bool),l∈GO arr t b d a ag↔l∈GO arr' t b d a ag
 | 0,_,_=>Iff.rfl
 | d+1,a,ag=>by
  rw [GO,GO]
  cases b[a]? with
  | none=>rfl
  | some w =>
   simp only
   cases Qhy w with
   | false=>exact Qzy h t w ag l
   | true =>
    simp only [cond_true]
    cases Jv b d (a+1) with
    | none=>rfl
    | some p =>
     simp only [List.mem_append,Qqg h t b l d]
def Qnr (s:Qa) (t:Qf) (w:Qz):List (List Int):=(V7 (Qdu (YX t w.2.1).1)).filter fun x=>Xx s x w.2.2
theorem Qin {s:Qa} (hs:SchLen s) (Rc:Int→Bool→Qq→Bool→(List Qy)→Qi→Qf→Qa→Option (Int × Qq × Bool × (List Qy) × Qi × Qf × Qa)) (x1:Int) (ag:Bool) (p:Qq) (n:Qi) (t:Qf) (w:Qz) :
  ∀ (l:List (List Int)) (acc:List Qy),acc.length+(l.filter fun x=>Xx s x w.2.2).length≤3000000→QK Rc x1 ag p n t s w l acc=some (IntKind.wrap .i64 (x1+1),p,true,acc++(l.filter fun x=>Xx s x w.2.2).map (fun x=>((x,w.2.2),ag)),n,t,s)
 | [],acc,_=>by rw [QK];simp
 | e::l,acc,h=>by
  rw [QK,Qc3 hs.t hs.typ,Option.bind_some]
  rw [List.filter_cons] at h ⊢
  cases hn:Xx s e w.2.2 with
  | false =>
   rw [hn] at h
   simp only [cond_false,Bool.false_eq_true,if_false] at h ⊢
   exact Qin hs Rc x1 ag p n t w l acc h
  | true =>
   rw [hn] at h
   simp only [if_true,List.length_cons] at h
   simp only [cond_true,if_true]
   rw [QbI (by omega) (by omega) (by omega),Qin hs Rc x1 ag p n t w l _ (by simp;omega)]
   simp
theorem Qtj {s:Qa} (hs:SchLen s) {t:Qf} (ht:Xr t) (hr:∀ r∈t.2.1,r.2.length≤2000000) {p:Qq} (hb:p.2.length≤maxLen) (n:Qi) :
  ∀ (d r a:Nat) (ag:Bool) (acc:List Qy) (q:Zt × Nat),Jv p.2 d a=some q→d≤r→acc.length+(GO (Qnr s t) n.1 p.2 d a ag).length≤3000000 →
   JD r (a:Int) ag p true acc n t s=some ((q.2:Int),p,true,acc++GO (Qnr s t) n.1 p.2 d a ag,n,t,s)
 | 0,_,_,_,_,_,h,_,_=>by cases h
 | d+1,0,_,_,_,_,_,h,_=>by omega
 | d+1,r+1,a,ag,acc,q,hq,hdr,hlen=>by
  show Yo (JD r) (a:Int) ag p true acc n t s=_
  rw [Jv] at hq
  rw [GO] at hlen ⊢
  cases hw:p.2[a]? with
  | none=>rw [hw] at hq;cases hq
  | some w =>
   rw [hw] at hq hlen
   simp only at hq hlen ⊢
   have ha:a<p.2.length:=(List.getElem?_eq_some_iff.1 hw).1
   unfold Yo
   rw [YS ha,QkG hw,GH hb ha]
   simp only [cond_true]
   cases ho:Qhy w with
   | true =>
    rw [ho] at hq hlen
    simp only [if_true,cond_true] at hq hlen ⊢
    cases h1:Jv p.2 d (a+1) with
    | none=>rw [h1] at hq;cases hq
    | some p1 =>
     rw [h1] at hq hlen
     simp only at hq hlen ⊢
     cases h2:Jv p.2 d p1.2 with
     | none=>rw [h2] at hq;cases hq
     | some p2 =>
      rw [h2] at hq
      cases hq
      rw [List.length_append] at hlen
      have r1:=Qtj hs ht hr hb n d r (a+1) ag acc p1 h1 (by omega) (by omega)
      have r2:=fun ag' (h:acc.length+(GO (Qnr s t) n.1 p.2 d (a+1) ag).length+(GO (Qnr s t) n.1 p.2 d p1.2 ag').length≤3000000)=>Qtj hs ht hr hb n d r p1.2 ag' (acc++GO (Qnr s t) n.1 p.2 d (a+1) ag) p2 h2 (by omega) (by rw [List.length_append];omega)
      rw [r1]
      simp only [Option.bind_some]
      unfold Qhy at ho
      cases ag with
      | true =>
       simp only [Bool.true_or] at hlen ⊢
       simp only [cond_true]
       rw [r2 true (by omega)]
       simp only [Option.bind_some,List.append_assoc]
       cases h3:decide (w.1=3)<;>cases h4:decide (w.1=4)<;>cases h5:decide (w.1=5)<;>first | rfl | (rw [h3,h4,h5] at ho;cases ho)
      | false =>
       simp only [Bool.false_or] at hlen ⊢
       simp only [cond_false]
       rw [r2 (decide (w.1=5)) (by omega)]
       simp only [Option.bind_some,List.append_assoc]
       cases h3:decide (w.1=3)<;>cases h4:decide (w.1=4)<;>cases h5:decide (w.1=5)<;>first | rfl | (rw [h3,h4,h5] at ho;cases ho)
   | false =>
    rw [ho] at hq hlen
    simp only [Bool.false_eq_true,if_false,Option.some.injEq,cond_false] at hq hlen ⊢
    subst hq
    unfold Qhy at ho
    simp only [Bool.or_eq_false_iff] at ho
    obtain ⟨⟨h3,h4⟩,h5⟩:=ho
    rw [h3,h4,h5]
    simp only [cond_false]
    have hl:=Qef hr w.2.1
    have hc:(V7 (Qdu (YX t w.2.1).1)).length≤maxLen:=Nat.le_trans (Qil _) (by
     unfold Qdu
     rw [List.length_map]
     exact Nat.le_trans (List.length_filter_le _ _) (by unfold maxLen;omega))
    rw [Gi ht.1,Option.bind_some,Ql8 hl,Option.bind_some,Qw hc]
    unfold QoW at hlen ⊢
    cases k1:decide (w.1=1) with
    | true =>
     rw [k1] at hlen
     simp only [cond_true,List.length_singleton] at hlen
     simp only [cond_true]
     rw [QbI (by omega) (by omega) (by omega)]
     rfl
    | false =>
     rw [k1] at hlen
     simp only [cond_false] at hlen ⊢
     cases k2:decide (w.1=2) with
     | true =>
      rw [k2] at hlen
      simp only [cond_true,List.length_cons,List.length_map] at hlen
      simp only [cond_true]
      unfold Qnr at hlen
      rw [QbI (by omega) (by omega) (by omega),Qin hs _ _ _ _ _ _ _ _ _ (by simp;omega),GH hb ha]
      simp [Qnr]
     | false=>simp
theorem QBG {s:Qa} (hs:SchLen s) {t:Qf} (ht:Xr t) (hr:∀ r∈t.2.1,r.2.length≤2000000) {p:Qq} (hb:p.2.length≤maxLen) (n:Qi) {q:Zt × Nat} (h:Jv p.2 10 0=some q) (hlen:(GO (Qnr s t) n.1 p.2 10 0 false).length≤3000000) :
  V1 0 false p true [] n t s=some ((q.2:Int),p,true,GO (Qnr s t) n.1 p.2 10 0 false,n,t,s) :=
 XD ⟨10,fun r hr'=>Qtj hs ht hr hb n 10 r 0 false [] q h hr' (by simpa using hlen)⟩
def Qhz (s:Qa) (t:Qf) (w:Qz):List (List Int):=Qgc s w.2.2 (YX t w.2.1).1.2 []
def atL (x y:List Int):List Qh→Nat→Int | [],_=>-1 | e::r,k=>if e.1=x∧e.2.1=y then (k:Int) else atL x y r (k+1)
def atI (all:List Qh) (n:Qi):Int:=atL n.1 n.2 all 0
theorem Qme (x y:List Int):∀ (l:List Qh) (k:Nat),Hd x y l k=some (atL x y l k)
 | [],k=>rfl
 | e::l,k=>by
  rw [Hd,Qme x y l (k+1),atL]
  by_cases h1:e.1=x
  ·by_cases h2:e.2.1=y
   ·rw [decide_eq_true h1,decide_eq_true h2,if_pos ⟨h1,h2⟩];rfl
   ·rw [decide_eq_true h1,decide_eq_false h2,if_neg (fun h=>h2 h.2)];rfl
  ·rw [decide_eq_false h1,if_neg (fun h=>h1 h.1)];rfl
theorem Ud {all:List Qh} (h:all.length≤maxLen) (x y:List Int):Zz all x y=some (atI all (x,y)):=by
 rw [Zz,Qw h,Qme];rfl
def QuO (all:List Qh) (fr:Int) (l:Qy):Qu:=(fr,atI all l.1,l.2)
theorem QoX {all:List Qh} (ha:all.length≤maxLen) (Rc:Qa→Qf→(List Qh)→Int→Zt→Bool→(List Qu)→Option (List Qu)) (fr:Int) (ag:Bool) (w:Qz) (ks:List Zt) :
  ∀ (l:List (List Int)) (acc:List Qu),acc.length+l.length≤3000000→J4 Rc all fr ag l acc (.node w ks)=some (acc++l.map (fun x=>QuO all fr ((x,w.2.2),ag)))
 | [],acc,_=>by rw [J4];simp
 | e::l,acc,h=>by
  simp only [List.length_cons] at h
  rw [J4,Ud ha,Option.bind_some,QbI (by omega) (by omega) (by omega),eta,QoX ha Rc fr ag w ks l _ (by simp;omega)]
  simp [QuO,Tree.val]
theorem Qtk {s:Qa} (hs:SchLen s) {t:Qf} (ht:Xr t) (hr:∀ r∈t.2.1,r.2.length≤2000000) {all:List Qh} (hall:all.length≤maxLen) (fr:Int) {b:List Qz} :
  ∀ (d r a:Nat) (ag:Bool) (acc:List Qu) (q:Zt × Nat),Jv b d a=some q→d≤r→acc.length+(GO (Qhz s t) t.1 b d a ag).length≤3000000 →
   UQ r s t all fr q.1 ag acc=some (acc++(GO (Qhz s t) t.1 b d a ag).map (QuO all fr))
 | 0,_,_,_,_,_,h,_,_=>by cases h
 | d+1,0,_,_,_,_,_,h,_=>by omega
 | d+1,r+1,a,ag,acc,q,hq,hdr,hlen=>by
  show UP (UQ r) s t all fr q.1 ag acc=_
  rw [Jv] at hq
  rw [GO] at hlen ⊢
  cases hw:b[a]? with
  | none=>rw [hw] at hq;cases hq
  | some w =>
   rw [hw] at hq hlen
   simp only at hq hlen ⊢
   cases ho:Qhy w with
   | true =>
    rw [ho] at hq hlen
    simp only [if_true,cond_true] at hq hlen ⊢
    cases h1:Jv b d (a+1) with
    | none=>rw [h1] at hq;cases hq
    | some p1 =>
     rw [h1] at hq hlen
     simp only at hq hlen ⊢
     cases h2:Jv b d p1.2 with
     | none=>rw [h2] at hq;cases hq
     | some p2 =>
      rw [h2] at hq
      cases hq
      rw [List.length_append] at hlen
      have r1:=Qtk hs ht hr hall fr d r (a+1) ag acc p1 h1 (by omega) (by omega)
      have r2:=fun ag' (h:acc.length+(GO (Qhz s t) t.1 b d (a+1) ag).length+(GO (Qhz s t) t.1 b d p1.2 ag').length≤3000000)=>Qtk hs ht hr hall fr d r p1.2 ag' (acc++(GO (Qhz s t) t.1 b d (a+1) ag).map (QuO all fr)) p2 h2 (by omega) (by rw [List.length_append,List.length_map];omega)
      have n1:decide (w.1=1)=false:=by
       unfold Qhy at ho
       by_cases e:w.1=1
       ·rw [e] at ho;exact absurd ho (by decide)
       ·exact decide_eq_false e
      have n2:decide (w.1=2)=false:=by
       unfold Qhy at ho
       by_cases e:w.1=2
       ·rw [e] at ho;exact absurd ho (by decide)
       ·exact decide_eq_false e
      rw [UP]
      have hv:(Tree.node w [p1.1,p2.1]:Zt).val=w:=rfl
      have hk:(Tree.node w [p1.1,p2.1]:Zt).kids=[p1.1,p2.1]:=rfl
      simp only
      rw [hv,hk,n1,n2]
      simp only [cond_false]
      rw [Qw (by simp [maxLen]),Za]
      simp only [eta]
      rw [hv]
      cases ag with
      | true =>
       simp only [cond_true,Bool.true_or] at hlen ⊢
       rw [r1,Option.bind_some,Za]
       simp only [cond_true,eta]
       rw [r2 true (by omega),Option.bind_some,Za]
       simp
      | false =>
       simp only [cond_false,Bool.false_or] at hlen ⊢
       rw [show decide (((0:Nat):Int)=1)=false from rfl]
       simp only [cond_false]
       rw [r1,Option.bind_some,Za]
       simp only [cond_false,eta]
       rw [show decide (((0+1:Nat):Int)=1)=true from rfl,hv]
       simp only [cond_true]
       rw [r2 (decide (w.1=5)) (by omega),Option.bind_some,Za]
       simp
   | false =>
    rw [ho] at hq hlen
    simp only [Bool.false_eq_true,if_false,Option.some.injEq,cond_false] at hq hlen ⊢
    subst hq
    rw [UP]
    have hv:(Tree.node w []:Zt).val=w:=rfl
    have hk:(Tree.node w []:Zt).kids=[]:=rfl
    simp only
    rw [hv,hk,Ud hall,Ud hall,Hz ht.1]
    simp only [Option.bind_some]
    have hl:=Qef hr w.2.1
    rw [Ql9 hs hl]
    simp only [Option.bind_some]
    unfold QoW at hlen ⊢
    cases k1:decide (w.1=1) with
    | true =>
     rw [k1] at hlen
     simp only [cond_true,List.length_singleton] at hlen
     simp only [cond_true]
     rw [QbI (by omega) (by omega) (by omega)]
     rfl
    | false =>
     rw [k1] at hlen
     simp only [cond_false] at hlen ⊢
     cases k2:decide (w.1=2) with
     | true =>
      rw [k2] at hlen
      simp only [cond_true,List.length_cons,List.length_map] at hlen
      simp only [cond_true]
      unfold Qhz at hlen
      rw [QbI (by omega) (by omega) (by omega),Qw (by unfold maxLen;omega),QoX hall _ _ _ _ _ _ _ (by simp;omega)]
      simp [Qhz,QuO]
     | false=>simp [Za,QV,maxLen]
theorem QBH {s:Qa} (hs:SchLen s) {t:Qf} (ht:Xr t) (hr:∀ r∈t.2.1,r.2.length≤2000000) {all:List Qh} (hall:all.length≤maxLen) (fr:Int) {b:List Qz} {q:Zt × Nat} (h:Jv b 10 0=some q) (acc:List Qu) (hlen:acc.length+(GO (Qhz s t) t.1 b 10 0 false).length≤3000000):ED s t all fr q.1 false acc=some (acc++(GO (Qhz s t) t.1 b 10 0 false).map (QuO all fr)):=XD ⟨10,fun r hr'=>Qtk hs ht hr hall fr 10 r 0 false acc q h hr' hlen⟩
end
end Go.Ab
