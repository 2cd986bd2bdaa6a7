import Derived.Test.YtkabjoifaffddaaGreatAfH
namespace Go.Ab
open Go.Proofs
noncomputable section
theorem QAG {t:Ty} (xs:List t.den):xs.length≤Ty.size (.list t) xs:=Nat.le_add_right _ _
theorem QyN {t:Ty} {x:t.den} {xs:List t.den} (h:x∈xs):t.size x≤Ty.size (.list t) xs:=Nat.le_trans (QvK (List.mem_map_of_mem h)) (Nat.le_add_left _ _)
theorem QAH {s:Qa} (hw:wfD Qe s) (h:Ty.size Qe s≤2000000):SchBd s where
 c:=hw.1.1
 t:=hw.2.1
 typ:=fun t ht=>⟨(hw.2.2 t ht).2.1.1,(hw.2.2 t ht).2.2.1⟩
 rel:=fun t ht r hr=>by
  have h1:Ty.size (.list Qj) s.2≤Ty.size Qe s:=Nat.le_add_left _ _
  have h2:=QyN (t:=Qj) ht
  have h3:Ty.size (.list Qr) t.2.1≤Ty.size Qj t:=Nat.le_trans (Nat.le_add_right _ _) (Nat.le_add_left _ _)
  have h4:=QyN (t:=Qr) hr
  have h5:Ty.size (.list Qg) r.2≤Ty.size Qr r:=Nat.le_add_left _ _
  have h6:=QAG (t:=Qg) r.2
  omega
 wf:=hw
def Qtw (c:Int):Bool:=QhX c||decide (c=45)||decide (c=46)
def Qgy (x:List Int):Bool:=decide (1≤x.length)&&decide (x.length≤40)&&x.all Qtw
theorem Qmh (x:List Int):∀ l:List Int,Yk x l=some (l.all Qtw&&decide (1≤x.length)&&decide (x.length≤40))
 | []=>by
  rw [Yk,show decide ((1:Int)≤(x.length:Int))=decide (1≤x.length) from decide_eq_decide.2 (by omega),show decide ((x.length:Int)≤40)=decide (x.length≤40) from decide_eq_decide.2 (by omega)]
  cases decide (1≤x.length)<;>rfl
 | e::l=>by
  rw [Yk,Qmh x l,QiO,Qfc,List.all_cons,Qtw,QhX]
  cases QgP e<;>cases QhW e<;>cases decide (e=95)<;>cases decide (e=45)<;>cases decide (e=46)<;>cases l.all Qtw<;>rfl
theorem Qq0 {x:List Int} (h:x.length≤maxLen):Ww x=some (Qgy x):=by
 rw [Ww,Qw h,Qmh,Qgy,Bool.and_assoc,Bool.and_comm]
theorem QhA:∀ l:List Int,Y7 l=some (l.all Qtw)
 | []=>rfl
 | e::l=>by
  rw [Y7,QhA l,Qhr,List.all_cons,Qtw]
  cases QhX e<;>cases decide (e=45)<;>cases decide (e=46)<;>rfl
theorem QkR {x:List Int} (h:x.length≤maxLen):XQ x=some (Qgy x):=by
 rw [XQ,Qw h,QhA,Qgy]
 have e1:decide ((x.length:Int)<1)=!decide (1≤x.length):=by grind
 have e2:decide ((40:Int)<(x.length:Int))=!decide (x.length≤40):=by grind
 rw [e1,e2]
 cases decide (1≤x.length)<;>cases decide (x.length≤40)<;>cases x.all Qtw<;>rfl
theorem Qtx {β:Type} {name:β→List Int} {z:β}:∀ {l:List β} {x:List Int},(Jt name z l x).2=false→(Jt name z l x).1=z
 | [],_,_=>rfl
 | e::r,x,h=>by
  unfold Jt at h ⊢
  split
  ·rename_i hx;rw [if_pos hx] at h;cases h
  ·rename_i hx;rw [if_neg hx] at h;exact Qtx h
def W9 (v:Xg):Bool:=decide (v.1=3)&&Qed v
theorem QrG {v:Xg} (h:wfD Vi v):UF v=some (W9 v):=by
 rw [UF,Qqa h,W9]
 cases decide (v.1=3)<;>rfl
theorem Qfp {v:Xg} (h:wfD Vi v):Y8 v=some (W9 v):=by
 rw [Y8,Qp9 h,W9]
 cases decide (v.1=3)<;>rfl
theorem QkS {v:Xg} (h:W9 v=true):v.2.2.2.length=v.2.2.1.length∧v.2.2.2.Nodup:=by
 unfold W9 at h
 rw [Bool.and_eq_true,decide_eq_true_eq] at h
 obtain ⟨h1,h2⟩:=h
 unfold Qed at h2
 rw [h1] at h2
 simp only [show decide ((3:Int)=1)=false from rfl,show decide ((3:Int)=2)=false from rfl,decide_true,cond_false,cond_true,Bool.and_eq_true,decide_eq_true_eq] at h2
 refine ⟨h2.1.1.1.2,?_⟩
 have:=Qd8 (key:=fun x:List Int=>x) h2.1.2
 simpa using this
def Qfq:List (List Int)→List YT→List Int→YT × Bool | n::l,a::is,x=>if n=x then (a,true) else Qfq l is x | _,_,_=>((0,0,[],[]),false)
theorem QuY {v:Xg} (hl:v.2.2.2.length=v.2.2.1.length) (x:List Int):∀ (r:List (List Int)) (k:Nat),r=v.2.2.2.drop k→XK x v r k=some (Qfq r (v.2.2.1.drop k) x)
 | [],k,_=>rfl
 | e::r,k,h=>by
  have hk:k<v.2.2.2.length:=by
   rcases Nat.lt_or_ge k v.2.2.2.length with h1 | h1
   ·exact h1
   ·rw [List.drop_of_length_le h1] at h;cases h
  have hr:r=v.2.2.2.drop (k+1):=by
   have:=List.drop_eq_getElem_cons hk
   rw [← h] at this
   exact (List.cons.inj this).2
  have hk2:k<v.2.2.1.length:=by omega
  rw [XK,QuY hl x r (k+1) hr,YS hk2,List.drop_eq_getElem_cons hk2,Qfq,QkG (List.getElem?_eq_getElem hk2)]
  by_cases he:e=x
  ·rw [decide_eq_true he,if_pos he];rfl
  ·rw [decide_eq_false he,if_neg he];rfl
theorem Qty {v:Xg} (hl:v.2.2.2.length=v.2.2.1.length) (hm:v.2.2.2.length≤maxLen) (x:List Int):QaZ v x=some (Qfq v.2.2.2 v.2.2.1 x):=by
 rw [QaZ,Qw hm]
 exact QuY hl x _ 0 rfl
theorem QuZ:∀ {l:List (List Int)} {is:List YT} {k:Nat} {x:List Int} {a:YT},l.Nodup→l[k]? = some x→is[k]? = some a→Qfq l is x=(a,true)
 | [],_,_,_,_,_,h,_=>by simp at h
 | _::_,[],_,_,_,_,_,h=>by simp at h
 | n::l,b::is,0,x,a,_,h,h2=>by
  simp only [List.getElem?_cons_zero,Option.some.injEq] at h h2
  rw [Qfq,if_pos h,h2]
 | n::l,b::is,k+1,x,a,hn,h,h2=>by
  simp only [List.getElem?_cons_succ] at h h2
  obtain ⟨n1,n2⟩:=List.nodup_cons.1 hn
  rw [Qfq,if_neg (fun e=>n1 (by rw [e];exact List.mem_of_getElem? h)),QuZ n2 h h2]
theorem Qtz {ps:List ZP} (hp:ps.length≤maxLen) {v:Xg} (hl:v.2.2.2.length=v.2.2.1.length) (hm:v.2.2.2.length≤maxLen) (x:List Int) :
  Wz ps v x=some ((Qfq v.2.2.2 v.2.2.1 x).1,(WL ps x).2&&(Qfq v.2.2.2 v.2.2.1 x).2&&decide ((Qfq v.2.2.2 v.2.2.1 x).1.1=(WL ps x).1.2)):=by
 rw [Wz,Qfk hp,Option.bind_some,Qty hl hm,Option.bind_some]
 simp only [Qzk]
 cases (WL ps x).2<;>cases (Qfq v.2.2.2 v.2.2.1 x).2<;>rfl
def Qge (ps:List ZP):List (List Int)→List YT→Bool | n::l,a::is=>(WL ps n).2&&decide ((WL ps n).1.2=a.1)&&Qge ps l is | _,_=>true
theorem Qlf {α:Type} {xs:List α} {e:α} {r:List α} {k:Nat} (h:e::r=xs.drop k):k<xs.length∧xs[k]? = some e∧r=xs.drop (k+1):=by
 have hk:k<xs.length:=by
  rcases Nat.lt_or_ge k xs.length with h1 | h1
  ·exact h1
  ·rw [List.drop_of_length_le h1] at h;cases h
 have:=List.drop_eq_getElem_cons hk
 rw [← h] at this
 obtain ⟨e1,e2⟩:=List.cons.inj this
 exact ⟨hk,by rw [List.getElem?_eq_getElem hk,e1],e2⟩
theorem Qxa {c:Q0} (hp:c.2.1.length≤maxLen) {t:Xh} (hl:t.2.2.2.2.2.2.2.2.2.2.length=t.2.2.2.2.2.2.2.2.2.1.length) (hm:t.2.2.2.2.2.2.2.2.2.2.length≤maxLen) (hn:t.2.2.2.2.2.2.2.2.2.2.Nodup):∀ (r:List (List Int)) (k:Nat),r=t.2.2.2.2.2.2.2.2.2.2.drop k →
  XL t c r=some (Qge c.2.1 r (t.2.2.2.2.2.2.2.2.2.1.drop k))
 | [],_,_=>rfl
 | e::r,k,h=>by
  obtain ⟨hk,he,hr⟩:=Qlf h
  have hk2:k<t.2.2.2.2.2.2.2.2.2.1.length:=by omega
  rw [XL,Qtz (v:=t.2.2.2.2.2.2.2) hp hl hm,Option.bind_some,Qxa hp hl hm hn r (k+1) hr,QuZ hn he (List.getElem?_eq_getElem hk2),List.drop_eq_getElem_cons hk2,Qge]
  simp only
  rw [show decide (t.2.2.2.2.2.2.2.2.2.1[k].1=(WL c.2.1 e).1.2)=decide ((WL c.2.1 e).1.2=t.2.2.2.2.2.2.2.2.2.1[k].1) from decide_eq_decide.2 eq_comm]
  cases (WL c.2.1 e).2<;>cases decide ((WL c.2.1 e).1.2=t.2.2.2.2.2.2.2.2.2.1[k].1)<;>rfl
theorem QtA {c:Q0} (hp:c.2.1.length≤maxLen) {t:Xh} (hl:t.2.2.2.2.2.2.2.2.2.2.length=t.2.2.2.2.2.2.2.2.2.1.length):∀ (r:List (List Int)) (k:Nat),r=t.2.2.2.2.2.2.2.2.2.2.drop k →
  Zv t c r k=some (Qge c.2.1 r (t.2.2.2.2.2.2.2.2.2.1.drop k))
 | [],_,_=>rfl
 | e::r,k,h=>by
  obtain ⟨hk,he,hr⟩:=Qlf h
  have hk2:k<t.2.2.2.2.2.2.2.2.2.1.length:=by omega
  rw [Zv,Qgu hp,Option.bind_some,QtA hp hl r (k+1) hr,YS hk2,QkG (List.getElem?_eq_getElem hk2),List.drop_eq_getElem_cons hk2,Qge]
  cases (WL c.2.1 e).2<;>cases decide ((WL c.2.1 e).1.2=t.2.2.2.2.2.2.2.2.2.1[k].1)<;>rfl
def QtB (star:Bool) (t:Xh) (k:Qx):Bool:=decide (k.1=t.2.2.2.1)&&decide (k.2.1=t.2.2.2.2.2.1)&&(k.2.2.1 == star)&&decide (k.2.2.2=t.2.2.2.2.2.2.1)
theorem Qo2 (star:Bool) (s:Qa) (t:Xh):∀ (l:List Qx) (x:Bool),Zk star s t l x=Zk star s t [] (x||l.any (QtB star t))
 | [],x=>by rw [List.any_nil,Bool.or_false]
 | e::l,x=>by
  conv=>lhs;rw [Zk]
  rw [Qo2 star s t l,Qo2 star s t l,Qo2 star s t l,List.any_cons,QtB]
  cases x<;>cases decide (e.1=t.2.2.2.1)<;>cases decide (e.2.1=t.2.2.2.2.2.1)<;>cases (e.2.2.1 == star)<;>cases decide (e.2.2.2=t.2.2.2.2.2.2.1)<;>rfl
theorem Qxb (q:Qx):∀ (l:List Qx) (k:Nat),∃ i:Int,VH q l k=some i∧decide (0≤i)=l.any fun e=>@decide (q=e) (Ty.decEq Qg q e)
 | [],k=>⟨-1,rfl,rfl⟩
 | e::l,k=>by
  obtain ⟨i,h1,h2⟩:=Qxb q l (k+1)
  rw [VH,h1,List.any_cons,← h2]
  cases @decide (q=e) (Ty.decEq Qg q e) with
  | true=>exact ⟨(k:Int),rfl,decide_eq_true (by omega)⟩
  | false=>exact ⟨i,rfl,rfl⟩
theorem Qxc {l:List Qx} (hl:l.length≤maxLen) (star:Bool) (t:Xh):ZQ l (t.2.2.2.1,t.2.2.2.2.2.1,star,t.2.2.2.2.2.2.1)=some (l.any (QtB star t)):=by
 obtain ⟨i,h1,h2⟩:=Qxb (t.2.2.2.1,t.2.2.2.2.2.1,star,t.2.2.2.2.2.2.1) l 0
 rw [ZQ,Qab,Qw hl,h1,Option.bind_some,h2]
 congr 1
 refine congrArg (fun f=>l.any f) (funext fun e=>?_)
 unfold QtB
 rw [Bool.eq_iff_iff]
 simp only [decide_eq_true_eq,Bool.and_eq_true,beq_iff_eq]
 constructor
 ·rintro rfl;exact ⟨⟨⟨rfl,rfl⟩,rfl⟩,rfl⟩
 ·rintro ⟨⟨⟨h1,h2⟩,h3⟩,h4⟩
  obtain ⟨a,b,c,d⟩:=e
  simp only at h1 h2 h3 h4
  rw [h1,h2,h3,h4]
theorem QBg (v:Xg):Wx v=VI v:=by
 unfold Wx VI
 rw [Qcl]
 rw [show @decide (v.2.1=(0,0,([]:List Int),([]:List Int))) (Ty.decEq QN v.2.1 (0,0,([]:List Int),([]:List Int)))=decide (v.2.1=((0,0,[],[]):Atm)) from decide_eq_decide.2 Iff.rfl]
theorem QyO {s:Qa} (x:List Int) (t:Xh) (ht:wfD Vt t):∀ l:List Q0,(∀ c∈l,c.2.1.length≤maxLen)→Zb x t l=bif W9 t.2.2.2.2.2.2.2 then some (Qge (Jt (·.1) (([],[],[]):Q0) l x).1.2.1 t.2.2.2.2.2.2.2.2.2.2 t.2.2.2.2.2.2.2.2.2.1) else some false
 | [],_=>by
  rw [Zb,Qfp ht.2.2.2.2.2.2.2,Option.bind_some,Qw ht.2.2.2.2.2.2.2.2.2.2.1,Jt]
  cases h:W9 t.2.2.2.2.2.2.2 with
  | false=>rfl
  | true =>
   simp only [Bool.not_true,cond_false,cond_true]
   exact QtA (c:=([],[],[])) (Nat.zero_le _) (QkS h).1 _ 0 rfl
 | e::l,hl=>by
  rw [Zb,Qfp ht.2.2.2.2.2.2.2,Option.bind_some,Qw ht.2.2.2.2.2.2.2.2.2.2.1,Jt,QyO (s:=s) x t ht l fun c hc=>hl c (List.mem_cons_of_mem _ hc)]
  by_cases he:e.1=x
  ·rw [decide_eq_true he,if_pos he]
   cases h:W9 t.2.2.2.2.2.2.2 with
   | false=>rfl
   | true =>
    simp only [Bool.not_true,cond_false,cond_true]
    exact QtA (hl e List.mem_cons_self) (QkS h).1 _ 0 rfl
  ·rw [decide_eq_false he,if_neg he];rfl
def Qmi (s:Qa) (t:Xh):Bool:=(Vf s t.1).2&&(YX (Vf s t.1).1 t.2.2.1).2&&Qgy t.2.1&&(decide (t.2.2.2.2.1=[42])||Qgy t.2.2.2.2.1)&&(YX (Vf s t.1).1 t.2.2.1).1.2.any (QtB (decide (t.2.2.2.2.1=[42])) t)&&bif decide (t.2.2.2.2.2.2.1=[]) then VI t.2.2.2.2.2.2.2 else W9 t.2.2.2.2.2.2.2&&Qge (Qdt s t.2.2.2.2.2.2.1).1.2.1 t.2.2.2.2.2.2.2.2.2.2 t.2.2.2.2.2.2.2.2.2.1
theorem Qyd {s:Qa} (hs:SchBd s) (x:List Int):(Qdt s x).1.2.1.length≤maxLen:=by
 have h:∀ l:List Q0,(∀ c∈l,c.2.1.length≤maxLen)→(Jt (·.1) (([],[],[]):Q0) l x).1.2.1.length≤maxLen:=by
  intro l
  induction l with
  | nil=>intro _;exact Nat.zero_le _
  | cons e r ih =>
   intro h
   unfold Jt
   split
   ·exact h e List.mem_cons_self
   ·exact ih fun c hc=>h c (List.mem_cons_of_mem _ hc)
 exact h _ fun c hc=>(hs.wf.1.2 c hc).2.1.1
theorem Qub {s:Qa} (hs:SchBd s) {t:Xh} (ht:wfD Vt t):EE s t=some (Qmi s t):=by
 have htl:=Qlc hs.typ t.1
 have hfin:∀ x:Bool,Zk (decide (t.2.2.2.2.1=[42])) s t [] x=some (x&&bif decide (t.2.2.2.2.2.2.1=[]) then VI t.2.2.2.2.2.2.2 else W9 t.2.2.2.2.2.2.2&&Qge (Qdt s t.2.2.2.2.2.2.1).1.2.1 t.2.2.2.2.2.2.2.2.2.2 t.2.2.2.2.2.2.2.2.2.1):=by
  intro x
  rw [Zk,QiQ hs.c,Option.bind_some,QrG ht.2.2.2.2.2.2.2,Option.bind_some,Qw ht.2.2.2.2.2.2.2.2.2.2.1,QBg]
  cases x with
  | false=>rfl
  | true =>
   cases decide (t.2.2.2.2.2.2.1=([]:List Int)) with
   | true=>rfl
   | false =>
    cases h:W9 t.2.2.2.2.2.2.2 with
    | false=>rfl
    | true =>
     obtain ⟨h1,h2⟩:=QkS h
     simp only [Bool.not_true,cond_false,Bool.true_and]
     exact Qxa (Qyd hs _) h1 ht.2.2.2.2.2.2.2.2.2.2.1 h2 _ 0 rfl
 have hlen:=Qef (fun r hr=>by
  rcases (show (Vf s t.1).1∈s.2∨(Vf s t.1).1=([],[],[]) from by
   cases h:(Vf s t.1).2 with
   | true=>exact .inl (W5 h).1
   | false=>exact .inr (Qtx h)) with h | h
  ·exact hs.rel _ h r hr
  ·rw [h] at hr;cases hr) t.2.2.1
 have hlen:(YX (Vf s t.1).1 t.2.2.1).1.2.length≤maxLen:=by unfold maxLen;omega
 rw [EE,Qgt hs.t,Option.bind_some,Hz htl.1,Option.bind_some,Qq0 (QaJ ht.2.1),Option.bind_some,Qa0,Qq0 (QaJ ht.2.2.2.2.1),Option.bind_some,Qw hlen,Qo2,hfin,Qmi]
 simp only [Bool.false_or]
 cases (Vf s t.1).2<;>cases (YX (Vf s t.1).1 t.2.2.1).2<;>cases Qgy t.2.1<;>cases decide (t.2.2.2.2.1=([42]:List Int))<;>cases Qgy t.2.2.2.2.1<;>rfl
theorem Qo3 {s:Qa} (hs:SchBd s) {t:Xh} (ht:wfD Vt t):J6 s t=some (Qmi s t):=by
 have htl:=Qlc hs.typ t.1
 have hlen:=Qef (fun r hr=>by
  rcases (show (Vf s t.1).1∈s.2∨(Vf s t.1).1=([],[],[]) from by
   cases h:(Vf s t.1).2 with
   | true=>exact .inl (W5 h).1
   | false=>exact .inr (Qtx h)) with h | h
  ·exact hs.rel _ h r hr
  ·rw [h] at hr;cases hr) t.2.2.1
 have hlen:(YX (Vf s t.1).1 t.2.2.1).1.2.length≤maxLen:=by unfold maxLen;omega
 rw [J6,Qd7 hs.t,Option.bind_some,Gi htl.1,Option.bind_some,QkR (QaJ ht.2.1),Option.bind_some,Ye,QkR (QaJ ht.2.2.2.2.1),Option.bind_some,Qxc hlen,Option.bind_some,Qw hs.c,QyO (s:=s) _ _ ht _ (fun c hc=>(hs.wf.1.2 c hc).2.1.1),Qmi,← Qdt]
 cases (Vf s t.1).2<;>cases (YX (Vf s t.1).1 t.2.2.1).2<;>cases Qgy t.2.1<;>cases decide (t.2.2.2.2.1=([42]:List Int))<;>cases Qgy t.2.2.2.2.1<;>cases (YX (Vf s t.1).1 t.2.2.1).1.2.any _<;>cases decide (t.2.2.2.2.2.2.1=([]:List Int))<;>cases W9 t.2.2.2.2.2.2.2<;>rfl
theorem Qu0 {s:Qa} {t:Xh} (h:Qmi s t=true):(t.1,t.2.2.1)∈QH s:=by
 unfold Qmi at h
 simp only [Bool.and_eq_true] at h
 obtain ⟨⟨⟨⟨⟨h1,h2⟩,_⟩,_⟩,_⟩,_⟩:=h
 refine Qle ?_
 unfold Xx
 rw [h1,h2];rfl
end
end Go.Ab
