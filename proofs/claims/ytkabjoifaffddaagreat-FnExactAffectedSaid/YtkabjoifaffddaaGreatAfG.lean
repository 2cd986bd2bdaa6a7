import Derived.Test.YtkabjoifaffddaaGreatAfF
namespace Go.Ab
open Go.Proofs
noncomputable section
def Qak (t:Qf):List Qi:=t.2.1.map (fun r=>(t.1,r.1))++t.2.2.map (fun p=>(t.1,p.1))
def QH (s:Qa):List Qi:=s.2.flatMap Qak
theorem Qtl (K:List Qi→Option (List Qi)) (t:Qf):∀ (l:List Qq) (acc:List Qi),acc.length+l.length≤3000000→Z4 K t l acc=K (acc++l.map (fun p=>(t.1,p.1)))
 | [],acc,_=>by rw [Z4];simp
 | e::l,acc,h=>by
  simp only [List.length_cons] at h
  rw [Z4,QbI (by omega) (by omega) (by omega),Qtl K t l _ (by simp;omega)]
  simp
theorem Qtm (K:List Qi→Option (List Qi)) (t:Qf) (ht:Xr t):∀ (l:List Qv) (acc:List Qi),acc.length+l.length+t.2.2.length≤3000000→Jc K t l acc=K (acc++(l.map (fun r=>(t.1,r.1))++t.2.2.map (fun p=>(t.1,p.1))))
 | [],acc,h=>by
  simp only [List.length_nil] at h
  rw [Jc,Qw ht.2,Qtl K t _ _ (by omega)];simp
 | e::l,acc,h=>by
  simp only [List.length_cons] at h
  rw [Jc,QbI (by omega) (by omega) (by omega),Qtm K t ht l _ (by simp;omega)]
  simp
theorem Qns (t:Qf):(Qak t).length=t.2.1.length+t.2.2.length:=by simp [Qak]
theorem Qtn:∀ (l:List Qf) (acc:List Qi),(∀ t∈l,Xr t)→acc.length+(l.flatMap Qak).length≤3000000→Jd l acc=some (acc++l.flatMap Qak)
 | [],acc,_,_=>by rw [Jd];simp
 | e::l,acc,hl,h=>by
  simp only [List.flatMap_cons,List.length_append,Qns] at h
  have he:=hl e List.mem_cons_self
  rw [Jd,Qw he.1,Qtm _ e he _ _ (by omega)]
  rw [Qtn l _ (fun t ht=>hl t (List.mem_cons_of_mem _ ht)) (by simp only [List.length_append,List.length_map];omega)]
  simp [Qak]
theorem Qgw {s:Qa} (hs:SchLen s) (h:(QH s).length≤3000000):Zu s=some (QH s):=by
 rw [Zu,Qw hs.t,Qtn _ _ hs.typ (by rw [List.length_nil,Nat.zero_add];exact h)];rfl
def Qav (n:Qi):Qh:=(n.1,n.2,0)
theorem QuP (K:List Qh→Option (List Qh)) (t:Qf):∀ (l:List Qq) (acc:List Qh),acc.length+l.length≤3000000→VN K t l acc=K (acc++l.map (fun p=>(t.1,p.1,0)))
 | [],acc,_=>by rw [VN];simp
 | e::l,acc,h=>by
  simp only [List.length_cons] at h
  rw [VN,QbI (by omega) (by omega) (by omega),QuP K t l _ (by simp;omega)]
  simp
theorem QuQ (K:List Qh→Option (List Qh)) (t:Qf) (ht:Xr t):∀ (l:List Qv) (acc:List Qh),acc.length+l.length+t.2.2.length≤3000000→Gc K t l acc=K (acc++(l.map (fun r=>(t.1,r.1,0))++t.2.2.map (fun p=>(t.1,p.1,0))))
 | [],acc,h=>by
  simp only [List.length_nil] at h
  rw [Gc,Qw ht.2,QuP K t _ _ (by omega)];simp
 | e::l,acc,h=>by
  simp only [List.length_cons] at h
  rw [Gc,QbI (by omega) (by omega) (by omega),QuQ K t ht l _ (by simp;omega)]
  simp
theorem QuR:∀ (l:List Qf) (acc:List Qh),(∀ t∈l,Xr t)→acc.length+(l.flatMap Qak).length≤3000000→Gd l acc=some (acc++(l.flatMap Qak).map Qav)
 | [],acc,_,_=>by rw [Gd];simp
 | e::l,acc,hl,h=>by
  simp only [List.flatMap_cons,List.length_append,Qns] at h
  have he:=hl e List.mem_cons_self
  rw [Gd,Qw he.1,QuQ _ e he _ _ (by omega)]
  rw [QuR l _ (fun t ht=>hl t (List.mem_cons_of_mem _ ht)) (by simp only [List.length_append,List.length_map];omega)]
  simp [Qak,Qav,Function.comp_def]
theorem Qto {s:Qa} (hs:SchLen s) (h:(QH s).length≤3000000):HW s=some ((QH s).map Qav):=by
 rw [HW,Qw hs.t,QuR _ _ hs.typ (by rw [List.length_nil,Nat.zero_add];exact h)];rfl
theorem QuS {α:Type} {key:α→List Int}:∀ {l:List α} {p:α},QM (fun a b=>Zn (key a) (key b)) (some p) l=true→(∀ x∈l,Zn (key p) (key x)=true)∧(l.map key).Nodup
 | [],p,_=>⟨fun x hx=>(by cases hx),List.nodup_nil⟩
 | e::r,p,h=>by
  simp only [QM,Bool.and_eq_true] at h
  obtain ⟨h1,h2⟩:=QuS h.2
  refine ⟨fun x hx=>?_,?_⟩
  ·rcases List.mem_cons.1 hx with rfl | hx
   ·exact h.1
   ·exact QqM _ _ _ h.1 (h1 x hx)
  ·rw [List.map_cons]
   refine List.nodup_cons.2 ⟨fun hm=>?_,h2⟩
   obtain ⟨x,hx,e1⟩:=List.mem_map.1 hm
   have:=h1 x hx
   rw [e1,QdY] at this
   cases this
theorem Qd8 {α:Type} {key:α→List Int} {l:List α} (h:Q9 (fun a b=>Zn (key a) (key b)) l=true):(l.map key).Nodup:=by
 cases l with
 | nil=>exact List.nodup_nil
 | cons e r =>
  have h:QM (fun a b=>Zn (key a) (key b)) (some e) r=true:=h
  obtain ⟨h1,h2⟩:=QuS h
  rw [List.map_cons]
  refine List.nodup_cons.2 ⟨fun hm=>?_,h2⟩
  obtain ⟨x,hx,e1⟩:=List.mem_map.1 hm
  have:=h1 x hx
  rw [e1,QdY] at this
  cases this
theorem WO {β:Type} {name:β→List Int} {z:β}:∀ {l:List β} {e:β},(l.map name).Nodup→e∈l→Jt name z l (name e)=(e,true)
 | a::r,e,hn,he=>by
  rw [List.map_cons] at hn
  obtain ⟨h1,h2⟩:=List.nodup_cons.1 hn
  unfold Jt
  rcases List.mem_cons.1 he with rfl | he
  ·rw [if_pos rfl]
  ·rw [if_neg (fun e1=>h1 (by rw [e1];exact List.mem_map_of_mem he)),WO h2 he]
structure TypGood (s:Qa) (t:Qf):Prop where
 nr:t.2.1.length≤12
 np:t.2.2.length≤12
 ru:(t.2.1.map (·.1)).Nodup
 pu:(t.2.2.map (·.1)).Nodup
 sub:∀ r∈t.2.1,r.2.length≤8∧∀ k∈r.2,k.2.1≠[]→Xx s k.1 k.2.1=true
 apart:∀ p∈t.2.2,(YX t p.1).2=false
 body:∀ p∈t.2.2,p.2.length≤30∧(∃ q,Jv p.2 10 0=some q)∧∀ w∈p.2,HG s t w=true
theorem QBe {s:Qa} {t:Qf} (h:Qgd s t=true):TypGood s t:=by
 unfold Qgd at h
 simp only [Bool.and_eq_true,decide_eq_true_eq,List.all_eq_true] at h
 obtain ⟨⟨⟨_,h1⟩,h2⟩,⟨h3,h4⟩,h5,h6⟩:=h
 refine ⟨h1,h2,Qd8 (key:=fun r:Qv=>r.1) h4,Qd8 (key:=fun r:Qq=>r.1) h6,fun r hr=>?_,fun p hp=>?_,fun p hp=>?_⟩
 ·have:=h3 r hr
  unfold QkJ QkF at this
  simp only [Bool.and_eq_true,decide_eq_true_eq,List.all_eq_true] at this
  obtain ⟨_,⟨_,k1⟩,k2,_⟩:=this
  refine ⟨k1,fun k hk hne=>?_⟩
  have:=k2 k hk
  unfold Ql6 at this
  simp only [Bool.and_eq_true,Bool.or_eq_true,decide_eq_true_eq] at this
  rcases this.1.2 with h | h
  ·exact absurd h hne
  ·exact h.2
 ·have:=h5 p hp
  unfold Qcm at this
  simp only [Bool.and_eq_true,Bool.not_eq_true'] at this
  exact this.2
 ·have:=h5 p hp
  unfold Qcm EB at this
  simp only [Bool.and_eq_true,decide_eq_true_eq,List.all_eq_true] at this
  obtain ⟨⟨_,⟨⟨_,k1⟩,k2⟩,k3⟩,_⟩:=this
  refine ⟨k1,?_,k3⟩
  cases hq:Jv p.2 10 0 with
  | none=>rw [hq] at k2;cases k2
  | some q=>exact ⟨q,rfl⟩
structure SchGood (s:Qa):Prop extends SchBd s where
 nt:s.2.length≤12
 tu:(s.2.map (·.1)).Nodup
 good:∀ t∈s.2,TypGood s t
theorem QyK {s:Qa} (hs:SchBd s) (h:Qma s=true):SchGood s:=by
 unfold Qma at h
 simp only [Bool.and_eq_true,decide_eq_true_eq,List.all_eq_true] at h
 obtain ⟨⟨⟨_,h1⟩,_⟩,h2,h3⟩:=h
 exact { hs with nt:=h1,tu:=Qd8 (key:=fun r:Qf=>r.1) h3,good:=fun t ht=>QBe (h2 t ht) }
theorem Qc5 {α β:Type} {f:α→List β} {m:Nat}:∀ {l:List α},(∀ x∈l,(f x).length≤m)→(l.flatMap f).length≤l.length*m
 | [],_=>Nat.zero_le _
 | a::l,h=>by
  rw [List.flatMap_cons,List.length_append,List.length_cons,Nat.succ_mul]
  have h1:=h a List.mem_cons_self
  have h2:=Qc5 (l:=l) fun x hx=>h x (List.mem_cons_of_mem _ hx)
  omega
theorem W7 {s:Qa} (hg:SchGood s):(QH s).length≤288:=by
 have h:=Qc5 (f:=Qak) (m:=24) (l:=s.2) fun t ht=>by
  rw [Qns]
  have:=(hg.good t ht).nr
  have:=(hg.good t ht).np
  omega
 have h2:s.2.length*24≤12*24:=Nat.mul_le_mul_right _ hg.nt
 exact Nat.le_trans h h2
theorem W8 {s:Qa} {n:Qi}:n∈QH s↔∃ t∈s.2,(∃ r∈t.2.1,n=(t.1,r.1))∨∃ p∈t.2.2,n=(t.1,p.1):=by
 unfold QH Qak
 simp only [List.mem_flatMap,List.mem_append,List.mem_map]
 constructor
 ·rintro ⟨t,ht,⟨r,hr,rfl⟩ | ⟨p,hp,rfl⟩⟩
  ·exact ⟨t,ht,.inl ⟨r,hr,rfl⟩⟩
  ·exact ⟨t,ht,.inr ⟨p,hp,rfl⟩⟩
 ·rintro ⟨t,ht,⟨r,hr,rfl⟩ | ⟨p,hp,rfl⟩⟩
  ·exact ⟨t,ht,.inl ⟨r,hr,rfl⟩⟩
  ·exact ⟨t,ht,.inr ⟨p,hp,rfl⟩⟩
theorem Qle {s:Qa} {x y:List Int} (h:Xx s x y=true):(x,y)∈QH s:=by
 unfold Xx at h
 simp only [Bool.and_eq_true,Bool.or_eq_true] at h
 obtain ⟨h1,h2⟩:=h
 obtain ⟨k1,k2⟩:=W5 h1
 have k2:(Vf s x).1.1=x:=k2
 refine W8.2 ⟨_,k1,?_⟩
 have pr:∀ {z:List Int},z=y→(x,y)=((Vf s x).1.1,z):=fun e=>by rw [k2,e]
 rcases h2 with h2 | h2
 ·obtain ⟨k3,k4⟩:=W5 h2
  exact .inl ⟨_,k3,pr k4⟩
 ·obtain ⟨k3,k4⟩:=W5 h2
  exact .inr ⟨_,k3,pr k4⟩
theorem QkM {s:Qa} (hg:SchGood s):(QH s).Nodup:=by
 have key:∀ l:List Qf,(∀ t∈l,t∈s.2)→(l.map (·.1)).Nodup→(l.flatMap Qak).Nodup:=by
  intro l
  induction l with
  | nil=>intro _ _;exact List.nodup_nil
  | cons t l ih =>
   intro hl hn
   rw [List.map_cons] at hn
   obtain ⟨h1,h2⟩:=List.nodup_cons.1 hn
   have ht:=hl t List.mem_cons_self
   have hgt:=hg.good t ht
   rw [List.flatMap_cons]
   have fst:∀ (t:Qf) (n:Qi),n∈Qak t→n.1=t.1:=by
    intro t n hn
    unfold Qak at hn
    rcases List.mem_append.1 hn with h | h
    ·obtain ⟨r,_,rfl⟩:=List.mem_map.1 h;rfl
    ·obtain ⟨r,_,rfl⟩:=List.mem_map.1 h;rfl
   refine List.nodup_append.2 ⟨?_,ih (fun t ht=>hl t (List.mem_cons_of_mem _ ht)) h2,fun a ha b hb e=>?_⟩
   ·unfold Qak
    have inj:∀ {β:Type} {name:β→List Int} {l:List β},(l.map name).Nodup→(l.map fun r=>((t.1,name r):Qi)).Nodup:=by
     intro β name l h
     induction l with
     | nil=>exact List.nodup_nil
     | cons a l ih =>
      rw [List.map_cons] at h ⊢
      obtain ⟨k1,k2⟩:=List.nodup_cons.1 h
      refine List.nodup_cons.2 ⟨fun hm=>?_,ih k2⟩
      obtain ⟨x,hx,e⟩:=List.mem_map.1 hm
      exact k1 ((Prod.mk.inj e).2 ▸ List.mem_map_of_mem hx)
    refine List.nodup_append.2 ⟨inj (name:=fun r:Qv=>r.1) hgt.ru,inj (name:=fun p:Qq=>p.1) hgt.pu,fun a ha b hb e=>?_⟩
    subst e
    obtain ⟨r,hr,rfl⟩:=List.mem_map.1 ha
    obtain ⟨p,hp,e⟩:=List.mem_map.1 hb
    have h3:=hgt.apart p hp
    have h4:(YX t r.1).2=true:=Qw0 (name:=fun r:Qv=>r.1) hr
    rw [← (Prod.mk.inj e).2,h3] at h4
    cases h4
   ·subst e
    obtain ⟨t',ht',hb'⟩:=List.mem_flatMap.1 hb
    have e1:=fst t a ha
    have e2:=fst t' a hb'
    exact h1 (List.mem_map.2 ⟨t',ht',e2.symm.trans e1⟩)
 exact key s.2 (fun _ h=>h) hg.tu
def Qtp (r:Qv):List Qy:=(r.2.filter fun k=>!decide (k.2.1=([]:List Int))).map fun k=>((k.1,k.2.1),false)
theorem Qyb:∀ (l:List Qx) (acc:List Qy),acc.length+l.length≤3000000→ZG l acc=some (acc++(l.filter fun k=>!decide (k.2.1=([]:List Int))).map fun k=>((k.1,k.2.1),false))
 | [],acc,_=>by rw [ZG];simp
 | e::l,acc,h=>by
  simp only [List.length_cons] at h
  rw [ZG,Qyb l _ (by simp;omega),Qyb l acc (by omega),QbI (by omega) (by omega) (by omega),List.filter_cons]
  cases decide (e.2.1=([]:List Int))<;>simp
def Gj (s:Qa) (n:Qi):List Qy:=bif (YX (Vf s n.1).1 n.2).2 then Qtp (YX (Vf s n.1).1 n.2).1 else GO (Qnr s (Vf s n.1).1) n.1 (QuN (Vf s n.1).1 n.2).1.2 10 0 false
theorem QyL {s:Qa} {t:Qf} (hg:TypGood s t) (x:List Int):(YX t x).1.2.length≤8:=by
 unfold YX
 have:∀ l:List Qv,(∀ r∈l,r.2.length≤8)→(Jt (·.1) (([],[]):Qv) l x).1.2.length≤8:=by
  intro l
  induction l with
  | nil=>intro _;exact Nat.zero_le _
  | cons e r ih =>
   intro h
   unfold Jt
   split
   ·exact h e List.mem_cons_self
   ·exact ih fun r hr=>h r (List.mem_cons_of_mem _ hr)
 exact this _ fun r hr=>(hg.sub r hr).1
theorem QAF {s:Qa} {t:Qf} (hg:TypGood s t) (w:Qz):(Qnr s t w).length≤8:=by
 unfold Qnr
 refine Nat.le_trans (List.length_filter_le _ _) (Nat.le_trans (Qil _) ?_)
 unfold Qdu
 rw [List.length_map]
 exact Nat.le_trans (List.length_filter_le _ _) (QyL hg _)
theorem Qw7 {s:Qa} {t:Qf} (hg:TypGood s t) (w:Qz):(Qhz s t w).length≤8:=by
 unfold Qhz
 have:=Qqe s w.2.2 (YX t w.2.1).1.2 []
 have:=QyL hg w.2.1
 simp only [List.length_nil] at *
 omega
theorem Qtq {s:Qa} {t:Qf} (hg:TypGood s t) {arr:Qz→List (List Int)} (h:∀ w,(arr w).length≤8) (x:List Int) {p:Qq} (hp:p∈t.2.2):(GO arr x p.2 10 0 false).length≤270:=by
 obtain ⟨h1,⟨q,hq⟩,_⟩:=hg.body p hp
 have h2:=Qqf h x p.2 10 0 false q hq
 have h3:=EK hq
 have h4:(q.2 - 0)*(8+1)≤30*9:=Nat.mul_le_mul_right _ (by omega)
 omega
theorem Qqh {s:Qa} (hg:SchGood s) {t:Qf} (ht:t∈s.2) {r:Qv} (hr:r∈t.2.1):Gj s (t.1,r.1)=Qtp r:=by
 have e1:Vf s t.1=(t,true):=WO hg.tu ht
 have e2:YX t r.1=(r,true):=WO (hg.good t ht).ru hr
 unfold Gj
 rw [e1,e2];rfl
theorem Qnt {s:Qa} (hg:SchGood s) {t:Qf} (ht:t∈s.2) {p:Qq} (hp:p∈t.2.2):Gj s (t.1,p.1)=GO (Qnr s t) t.1 p.2 10 0 false:=by
 have e1:Vf s t.1=(t,true):=WO hg.tu ht
 have e2:=(hg.good t ht).apart p hp
 have e3:QuN t p.1=(p,true):=WO (hg.good t ht).pu hp
 unfold Gj
 rw [e1,e2,e3];rfl
theorem Qgx {s:Qa} (hg:SchGood s) {n:Qi} (hn:n∈QH s):Jp s n=some (Gj s n)∧(Gj s n).length≤270:=by
 obtain ⟨t,ht,h⟩:=W8.1 hn
 have e1:Vf s t.1=(t,true):=WO hg.tu ht
 have hgt:=hg.good t ht
 have htl:=hg.typ t ht
 rw [Jp,Qd7 hg.t,Option.bind_some]
 rcases h with ⟨r,hr,rfl⟩ | ⟨p,hp,rfl⟩
 ·have e2:YX t r.1=(r,true):=WO hgt.ru hr
  have h8:=(hgt.sub r hr).1
  rw [Qqh hg ht hr]
  simp only
  rw [e1]
  simp only
  rw [Gi htl.1,Option.bind_some,e2]
  simp only [cond_true]
  rw [Qw (by unfold maxLen;omega),Qyb _ _ (by simp;omega)]
  refine ⟨by simp [Qtp],?_⟩
  unfold Qtp
  rw [List.length_map]
  exact Nat.le_trans (List.length_filter_le _ _) (by omega)
 ·have e2:=hgt.apart p hp
  have e3:QuN t p.1=(p,true):=WO hgt.pu hp
  obtain ⟨h1,⟨q,hq⟩,_⟩:=hgt.body p hp
  have hlen:=Qtq hgt (QAF hgt) t.1 hp
  rw [Qnt hg ht hp]
  simp only
  rw [e1]
  simp only
  rw [Gi htl.1,Option.bind_some,e2,Qfj htl.2]
  simp only [cond_false,Option.bind_some]
  rw [e3]
  simp only
  rw [QBG hg.toSchLen htl (hg.rel t ht) (by unfold maxLen;omega) (t.1,p.1) hq (by simp only;omega)]
  exact ⟨rfl,hlen⟩
def Gk (n:Qi) (l:Qy):Xq Qi:=(n,l.1,l.2)
def Qal (s:Qa):List (Xq Qi):=(QH s).flatMap fun n=>(Gj s n).map (Gk n)
def QkN (s:Qa) (t:Qf):List (Xq Qi):=t.2.1.flatMap (fun r=>(Qtp r).map (Gk (t.1,r.1)))++t.2.2.flatMap (fun p=>(GO (Qhz s t) t.1 p.2 10 0 false).map (Gk (t.1,p.1)))
def Qbo (s:Qa):List (Xq Qi):=s.2.flatMap (QkN s)
theorem Qw8 {s:Qa} {t:Qf} (hw:∀ r∈t.2.1,wfD Qr r) (w:Qz) (x:List Int):x∈Qnr s t w↔x∈Qhz s t w:=by
 unfold Qnr Qhz
 have hb:∀ x∈Qdu (YX t w.2.1).1,bytesL x:=fun x hx=>by
  obtain ⟨k,h1,_,rfl⟩:=Qfn.1 hx
  exact Qk6 (Qw3 hw _ k h1).1
 rw [List.mem_filter,Qij hb,Qfn,Qee]
 constructor
 ·rintro ⟨⟨k,h1,h2,rfl⟩,h3⟩
  exact .inr ⟨k,h1,h2,h3,rfl⟩
 ·rintro (h | ⟨k,h1,h2,h3,rfl⟩)
  ·cases h
  ·exact ⟨⟨k,h1,h2,rfl⟩,h3⟩
theorem Qam {s:Qa} (hg:SchGood s) (e:Xq Qi):e∈Qal s↔e∈Qbo s:=by
 have hwt:∀ t∈s.2,wfD Qj t:=hg.wf.2.2
 unfold Qal Qbo QkN
 simp only [List.mem_flatMap,List.mem_append,List.mem_map]
 constructor
 ·rintro ⟨n,hn,l,hl,rfl⟩
  obtain ⟨t,ht,⟨r,hr,rfl⟩ | ⟨p,hp,rfl⟩⟩:=W8.1 hn
  ·rw [Qqh hg ht hr] at hl
   exact ⟨t,ht,.inl ⟨r,hr,l,hl,rfl⟩⟩
  ·rw [Qnt hg ht hp] at hl
   exact ⟨t,ht,.inr ⟨p,hp,l,(Qqg (Qw8 (hwt t ht).2.1.2) _ _ _ _ _ _).1 hl,rfl⟩⟩
 ·rintro ⟨t,ht,⟨r,hr,l,hl,rfl⟩ | ⟨p,hp,l,hl,rfl⟩⟩
  ·exact ⟨(t.1,r.1),W8.2 ⟨t,ht,.inl ⟨r,hr,rfl⟩⟩,l,by rw [Qqh hg ht hr];exact hl,rfl⟩
  ·exact ⟨(t.1,p.1),W8.2 ⟨t,ht,.inr ⟨p,hp,rfl⟩⟩,l,by rw [Qnt hg ht hp];exact (Qqg (Qw8 (hwt t ht).2.1.2) _ _ _ _ _ _).2 hl,rfl⟩
theorem Qqi {s:Qa} {t:Qf} (ht:t∈s.2) {b:List Qz} (hb:∀ w∈b,HG s t w=true):∀ (d a:Nat) (ag:Bool) (l:Qy),l∈GO (Qhz s t) t.1 b d a ag→l.1∈QH s
 | 0,_,_,_,h=>by cases h
 | d+1,a,ag,l,h=>by
  rw [GO] at h
  cases hw:b[a]? with
  | none=>rw [hw] at h;cases h
  | some w =>
   rw [hw] at h
   simp only at h
   have hok:=hb w (List.mem_of_getElem? hw)
   cases ho:Qhy w with
   | true =>
    rw [ho] at h
    simp only [cond_true] at h
    cases h1:Jv b d (a+1) with
    | none=>rw [h1] at h;cases h
    | some p =>
     rw [h1] at h
     simp only [List.mem_append] at h
     rcases h with h | h
     ·exact Qqi ht hb d _ _ l h
     ·exact Qqi ht hb d _ _ l h
   | false =>
    rw [ho] at h
    simp only [cond_false] at h
    unfold QoW at h
    cases k1:decide (w.1=1) with
    | true =>
     rw [k1] at h
     simp only [cond_true,List.mem_singleton] at h
     subst h
     have e1:=of_decide_eq_true k1
     unfold HG at hok
     rw [ho,k1,show decide (w.1=6)=false from decide_eq_false (by rw [e1];decide)] at hok
     simp only [Bool.or_false,cond_false,cond_true,Bool.and_eq_true] at hok
     exact Qle hok.2
    | false =>
     rw [k1] at h
     simp only [cond_false] at h
     cases k2:decide (w.1=2) with
     | false=>rw [k2] at h;cases h
     | true =>
      rw [k2] at h
      simp only [cond_true,List.mem_cons,List.mem_map] at h
      have e1:=of_decide_eq_true k2
      unfold HG at hok
      rw [ho,k1,k2,show decide (w.1=6)=false from decide_eq_false (by rw [e1];decide)] at hok
      simp only [Bool.or_false,cond_false,cond_true,Bool.and_eq_true] at hok
      rcases h with rfl | ⟨x,hx,rfl⟩
      ·obtain ⟨k3,k4⟩:=W5 hok.1
       exact W8.2 ⟨t,ht,.inl ⟨_,k3,by rw [k4]⟩⟩
      ·unfold Qhz at hx
       rw [Qee] at hx
       rcases hx with hx | ⟨k,_,_,hk,rfl⟩
       ·cases hx
       ·exact Qle hk
theorem Qfo {s:Qa} (hg:SchGood s):∀ e∈Qbo s,e.1∈QH s∧e.2.1∈QH s:=by
 intro e he
 unfold Qbo QkN at he
 simp only [List.mem_flatMap,List.mem_append,List.mem_map] at he
 obtain ⟨t,ht,⟨r,hr,l,hl,rfl⟩ | ⟨p,hp,l,hl,rfl⟩⟩:=he
 ·refine ⟨W8.2 ⟨t,ht,.inl ⟨r,hr,rfl⟩⟩,?_⟩
  unfold Qtp at hl
  obtain ⟨k,hk,rfl⟩:=List.mem_map.1 hl
  obtain ⟨k1,k2⟩:=List.mem_filter.1 hk
  refine Qle (((hg.good t ht).sub r hr).2 k k1 ?_)
  simpa using k2
 ·exact ⟨W8.2 ⟨t,ht,.inr ⟨p,hp,rfl⟩⟩,Qqi ht ((hg.good t ht).body p hp).2.2 _ _ _ l hl⟩
end
end Go.Ab
