import Derived.Test.YtkabjoifaffddaaGreatAfC
namespace Go.Ab
open Go.Proofs
noncomputable section
theorem QbI {α:Type} {xs:List α} {y:α} {c:Int} (hx:xs.length≤3000000) (h0:0≤c) (h1:c≤1000):(decide (((xs.length:Int)+(([y]:List α).length:Int))*c≤Q4)&&decide ((xs.length:Int)+(([y]:List α).length:Int)≤Q4))=true:=by
 have h:((xs.length:Int)+1)*c≤3000001*1000:=Int.mul_le_mul (by omega) h1 h0 (by omega)
 rw [Xf,Bool.and_eq_true,decide_eq_true_eq,decide_eq_true_eq,List.length_singleton]
 exact ⟨by push_cast at h ⊢;omega,by omega⟩
theorem QBc {α:Type} {p:α→Prop} {a:α} {l:List α}:(∃ x,x∈a::l∧p x)↔p a∨∃ x,x∈l∧p x:=by
 constructor
 ·rintro ⟨x,h,hp⟩
  rcases List.mem_cons.1 h with rfl | h
  ·exact .inl hp
  ·exact .inr ⟨x,h,hp⟩
 ·rintro (h | ⟨x,h,hp⟩)
  ·exact ⟨a,List.mem_cons_self,h⟩
  ·exact ⟨x,List.mem_cons_of_mem _ h,hp⟩
theorem QBn {x:List Int} (h:bytesL x):isB (bsI x)=x:=by
 unfold isB bsI
 rw [List.map_map]
 conv=>rhs;rw [← List.map_id x]
 apply List.map_congr_left
 intro b hb
 have:=h b hb
 simp only [Function.comp,UInt8.toNat_ofNat',id]
 omega
theorem Qij {xs:List (List Int)} (h:∀ x∈xs,bytesL x) {y:List Int}:y∈V7 xs↔y∈xs:=by
 unfold V7
 simp only [List.mem_map,QqP]
 constructor
 ·rintro ⟨z,⟨x,hx,rfl⟩,rfl⟩
  rw [QBn (h x hx)];exact hx
 ·intro hy
  exact ⟨bsI y,⟨y,hy,rfl⟩,QBn (h y hy)⟩
def Qgv (k:Qx):Bool:=decide (k.2.1=([]:List Int))&&!k.2.2.1
def Qdu (r:Qv):List (List Int):=(r.2.filter Qgv).map (·.1)
theorem Qfn {r:Qv} {x:List Int}:x∈Qdu r↔∃ k∈r.2,Qgv k=true∧k.1=x:=by
 unfold Qdu
 simp only [List.mem_map,List.mem_filter]
 constructor
 ·rintro ⟨k,⟨h1,h2⟩,h3⟩;exact ⟨k,h1,h2,h3⟩
 ·rintro ⟨k,h1,h2,h3⟩;exact ⟨k,⟨h1,h2⟩,h3⟩
theorem Qdv:∀ (l:List Qx) (acc:List (List Int)),acc.length+l.length≤3000000→YF l acc=some (V7 (acc++(l.filter Qgv).map (·.1)))
 | [],acc,_=>by rw [YF];simp
 | e::l,acc,h=>by
  simp only [List.length_cons] at h
  rw [YF,Qdv l _ (by simp;omega),Qdv l acc (by omega),QbI (by omega) (by omega) (by omega),List.filter_cons,Qgv]
  cases decide (e.2.1=([]:List Int))<;>cases e.2.2.1<;>simp
theorem Ql8 {r:Qv} (h:r.2.length≤2000000):YW r=some (V7 (Qdu r)):=by
 rw [YW,Qw (by unfold maxLen;omega),Qdv _ _ (by simp;omega)];rfl
def QvZ (l:List (List Int)) (x:List Int):Bool:=l.any fun e=>decide (e=x)
theorem QkI (x:List Int):∀ l:List (List Int),HV x l=some (QvZ l x)
 | []=>rfl
 | e::r=>by
  rw [HV,QkI x r]
  unfold QvZ
  rw [List.any_cons]
  cases decide (e=x)<;>rfl
theorem Qv0 {l:List (List Int)} (h:l.length≤maxLen) (x:List Int):QaT l x=some (QvZ l x):=by
 rw [QaT,Qw h,QkI]
def Qgc (s:Qa) (n:List Int):List Qx→List (List Int)→List (List Int) | [],acc=>acc | k::r,acc=>bif Qgv k&&Xx s k.1 n&&!(QvZ acc k.1) then Qgc s n r (acc++[k.1]) else Qgc s n r acc
theorem Qqe (s:Qa) (n:List Int):∀ (l:List Qx) (acc:List (List Int)),(Qgc s n l acc).length≤acc.length+l.length
 | [],acc=>Nat.le_refl _
 | k::r,acc=>by
  rw [Qgc]
  cases (Qgv k&&Xx s k.1 n&&!(QvZ acc k.1)) with
  | true=>have:=Qqe s n r (acc++[k.1]);simp only [cond_true,List.length_append,List.length_cons,List.length_nil] at this ⊢;omega
  | false=>have:=Qqe s n r acc;simp only [cond_false,List.length_cons] at this ⊢;omega
theorem Qee (s:Qa) (n x:List Int):∀ (l:List Qx) (acc:List (List Int)),x∈Qgc s n l acc↔x∈acc∨∃ k∈l,Qgv k=true∧Xx s k.1 n=true∧k.1=x
 | [],acc=>by simp [Qgc]
 | k::r,acc=>by
  rw [Qgc]
  have h1:=Qee s n x r (acc++[k.1])
  have h2:=Qee s n x r acc
  have h3:QvZ acc k.1=true↔k.1∈acc:=by
   unfold QvZ
   rw [List.any_eq_true]
   constructor
   ·rintro ⟨e,h,h4⟩;rw [of_decide_eq_true h4] at h;exact h
   ·intro h;exact ⟨_,h,decide_eq_true rfl⟩
  cases hp:Qgv k<;>cases hn:Xx s k.1 n<;>cases hh:QvZ acc k.1<;>simp only [Bool.and_true,Bool.and_false,Bool.true_and,Bool.false_and,Bool.not_true,Bool.not_false,cond_true,cond_false,h1,h2,List.mem_append,List.mem_singleton,QBc,hp,hn,Bool.false_eq_true,false_and,and_false,false_or,true_and]
  ·constructor
   ·rintro ((h | h) | h)
    ·exact .inl h
    ·exact .inr (.inl h.symm)
    ·exact .inr (.inr h)
   ·rintro (h | h | h)
    ·exact .inl (.inl h)
    ·exact .inl (.inr h.symm)
    ·exact .inr h
  ·constructor
   ·rintro (h | h)
    ·exact .inl h
    ·exact .inr (.inr h)
   ·rintro (h | h | h)
    ·exact .inl h
    ·exact .inl (h ▸ h3.1 hh)
    ·exact .inr h
theorem Qdw {s:Qa} (hs:SchLen s) (n:List Int):∀ (l:List Qx) (acc:List (List Int)),acc.length+l.length≤3000000→J3 n s l acc=some (Qgc s n l acc)
 | [],acc,_=>rfl
 | e::l,acc,h=>by
  simp only [List.length_cons] at h
  rw [J3,Qdw hs n l _ (by simp;omega),Qdw hs n l acc (by omega),QbI (by omega) (by omega) (by omega),Qfl hs.t hs.typ,Qv0 (by unfold maxLen;omega),Qgc,Qgv]
  cases decide (e.2.1=([]:List Int))<;>cases e.2.2.1<;>cases Xx s e.1 n<;>cases QvZ acc e.1<;>rfl
theorem Ql9 {s:Qa} (hs:SchLen s) {r:Qv} (h:r.2.length≤2000000) (n:List Int):HC s r n=some (Qgc s n r.2 []):=by
 rw [HC,Qw (by unfold maxLen;omega),Qdw hs n _ _ (by simp;omega)]
def Qld (s:Qa) (r:Qv) (n:List Int):Bool:=r.2.any fun k=>Qgv k&&Xx s k.1 n
def HG (s:Qa) (t:Qf) (w:Qz):Bool:=bif Qhy w||decide (w.1=6) then decide (w.2.1=([]:List Int))&&decide (w.2.2=([]:List Int)) else bif decide (w.1=1) then decide (w.2.1=([]:List Int))&&Xx s t.1 w.2.2 else bif decide (w.1=2) then (YX t w.2.1).2&&Qld s (YX t w.2.1).1 w.2.2 else false
theorem Qx9 (s:Qa) (r:Qv) (n:List Int):decide ((0:Int)<((Qgc s n r.2 []).length:Int))=Qld s r n:=by
 rw [Bool.eq_iff_iff,decide_eq_true_eq,Qld,List.any_eq_true]
 constructor
 ·intro h
  obtain ⟨x,hx⟩:=List.exists_mem_of_length_pos (l:=Qgc s n r.2 []) (by omega)
  rw [Qee] at hx
  rcases hx with hx | ⟨k,h1,h2,h3,_⟩
  ·cases hx
  ·exact ⟨k,h1,by rw [h2,h3];rfl⟩
 ·rintro ⟨k,h1,h2⟩
  rw [Bool.and_eq_true] at h2
  have:k.1∈Qgc s n r.2 []:=(Qee s n k.1 r.2 []).2 (.inr ⟨k,h1,h2.1,h2.2,rfl⟩)
  have:=List.length_pos_of_mem this
  omega
structure SchBd (s:Qa):Prop extends SchLen s where
 rel:∀ t∈s.2,∀ r∈t.2.1,r.2.length≤2000000
 wf:wfD Qe s
theorem Qef {t:Qf} (h:∀ r∈t.2.1,r.2.length≤2000000) (x:List Int):(YX t x).1.2.length≤2000000:=by
 unfold YX
 have:∀ l:List Qv,(∀ r∈l,r.2.length≤2000000)→(Jt (·.1) (([],[]):Qv) l x).1.2.length≤2000000:=by
  intro l
  induction l with
  | nil=>intro _;exact Nat.zero_le _
  | cons e r ih =>
   intro h
   unfold Jt
   split
   ·exact h e List.mem_cons_self
   ·exact ih fun r hr=>h r (List.mem_cons_of_mem _ hr)
 exact this _ h
def seg (b:List Qz) (a c:Nat):List Qz:=(b.drop a).take (c - a)
theorem Qti {b:List Qz} {a c e:Nat} (h1:a≤c) (h2:c≤e):seg b a e=seg b a c++seg b c e:=by
 unfold seg
 rw [show e - a=(c - a)+(e - c) by omega,List.take_add,List.drop_drop,show a+(c - a)=c by omega]
theorem QyJ {b:List Qz} {a:Nat} {w:Qz} (h:b[a]? = some w):seg b a (a+1)=[w]:=by
 unfold seg
 obtain ⟨h1,h2⟩:=List.getElem?_eq_some_iff.1 h
 rw [Nat.add_sub_cancel_left,List.drop_eq_getElem_cons h1,h2];rfl
theorem QBd {b:List Qz}:seg b 0 b.length=b:=by simp [seg]
theorem Qik {s:Qa} (hs:SchLen s) {t:Qf} (ht:Xr t) (hr:∀ r∈t.2.1,r.2.length≤2000000) {b:List Qz}:∀ (d r a:Nat) (p:Zt × Nat),Jv b d a=some p→d≤r→Z6 r s t p.1=some ((seg b a p.2).all (HG s t))
 | 0,_,_,_,h,_=>by cases h
 | d+1,0,_,_,_,h=>by omega
 | d+1,r+1,a,p,h,hdr=>by
  rw [Jv] at h
  split at h
  ·cases h
  ·rename_i w hw
   have leaf:∀ ks,U4 (Z6 r) s t (.node w ks)=bif Qhy w then JH (Z6 r) true s t (.node w ks) w else some (HG s t w):=by
    intro ks
    rw [U4]
    simp only [Tree.val,Tree.kids,Qfl hs.t hs.typ,Hz ht.1,Option.bind_some,Ql9 hs (Qef hr _),Qx9]
    unfold Qhy HG Qhy
    by_cases h6:w.1=6
    ·by_cases hv:w.2.1=([]:List Int)
     ·simp [h6,hv]
      exact decide_eq_decide.2 Iff.rfl
     ·simp [h6,hv]
    ·by_cases h1:w.1=1
     ·by_cases hv:w.2.1=([]:List Int)<;>simp [h1,hv]
     ·by_cases h2:w.1=2
      ·simp [h2]
       cases (YX t w.2.1).2<;>simp
      ·by_cases h3:w.1=3
       ·simp [h3]
       ·by_cases h4:w.1=4
        ·simp [h4]
        ·by_cases h5:w.1=5
         ·simp [h5]
         ·simp [h1,h2,h3,h4,h5,h6,JH]
   show U4 (Z6 r) s t p.1=_
   split at h
   ·rename_i hop
    split at h
    ·cases h
    ·rename_i p1 h1
     split at h
     ·cases h
     ·rename_i q h2
      cases h
      have l1:=EK h1
      have l2:=EK h2
      rw [leaf,hop]
      simp only [cond_true]
      unfold JH
      have hk:(Tree.node w [p1.1,q.1]:Zt).kids=[p1.1,q.1]:=rfl
      rw [hk]
      simp only [List.length_cons,List.length_nil,cond_true]
      rw [show inB 0 (0+1+1)=true from rfl,show inB 1 (0+1+1)=true from rfl]
      simp only [cond_true]
      rw [show rd [p1.1,q.1] (0:Int) (Ty.dflt YU)=p1.1 from rfl,show rd [p1.1,q.1] (1:Int) (Ty.dflt YU)=q.1 from rfl,eta,eta,Qik hs ht hr d r (a+1) p1 h1 (by omega),Qik hs ht hr d r p1.2 q h2 (by omega)]
      rw [Qti (b:=b) (a:=a) (c:=a+1) (e:=q.2) (by omega) (by omega),Qti (b:=b) (a:=a+1) (c:=p1.2) (e:=q.2) (by omega) (by omega),QyJ hw]
      simp only [List.all_append,List.all_cons,List.all_nil,Bool.and_true,HG,hop,Bool.true_or,cond_true]
      generalize (seg b (a+1) p1.2).all (HG s t)=A
      generalize (seg b p1.2 q.2).all (HG s t)=B
      cases decide (w.2.1=([]:List Int))<;>cases decide (w.2.2=([]:List Int))<;>cases A<;>cases B<;>rfl
   ·rename_i hop
    cases h
    rw [leaf,QyJ hw]
    simp only [Bool.not_eq_true] at hop
    rw [hop]
    simp
theorem Qya {s:Qa} (hs:SchLen s) {t:Qf} (ht:Xr t) (hr:∀ r∈t.2.1,r.2.length≤2000000) {b:List Qz} {p:Zt × Nat} (h:Jv b 10 0=some p):VB s t p.1=some ((seg b 0 p.2).all (HG s t)):=XD ⟨10,fun r hr'=>Qik hs ht hr 10 r 0 p h hr'⟩
theorem QoP {s:Qa} (hs:SchLen s) (w:Qz) (K:Option Bool):∀ (l:List (List Int)) (k:Nat),Ze K s w l k=bif l.any (fun x=>Xx s x w.2.2) then K else some false
 | [],k=>rfl
 | e::l,k=>by
  rw [Ze,Qc3 hs.t hs.typ,Option.bind_some,QoP hs w K l (k+1),List.any_cons,QBE]
  cases Xx s e w.2.2<;>simp
theorem Qt9 {s:Qa} {r:Qv} (h:∀ k∈r.2,wfD Qg k) (n:List Int):(V7 (Qdu r)).any (fun x=>Xx s x n)=Qld s r n:=by
 have hb:∀ x∈Qdu r,bytesL x:=fun x hx=>by
  obtain ⟨k,h1,_,rfl⟩:=Qfn.1 hx
  exact Qk6 (h k h1).1
 rw [Bool.eq_iff_iff,Qld,List.any_eq_true,List.any_eq_true]
 constructor
 ·rintro ⟨x,h1,h2⟩
  obtain ⟨k,k1,k2,rfl⟩:=Qfn.1 ((Qij hb).1 h1)
  exact ⟨k,k1,by rw [k2,h2];rfl⟩
 ·rintro ⟨k,k1,k2⟩
  rw [Bool.and_eq_true] at k2
  exact ⟨k.1,(Qij hb).2 (Qfn.2 ⟨k,k1,k2.1,rfl⟩),k2.2⟩
theorem Qil (xs:List (List Int)):(V7 xs).length≤xs.length:=by
 unfold V7
 rw [List.length_map]
 exact Nat.le_trans (QqQ _) (by simp)
theorem Qw3 {t:Qf} (h:∀ r∈t.2.1,wfD Qr r) (x:List Int):∀ k∈(YX t x).1.2,wfD Qg k:=by
 unfold YX
 cases hb:(Jt (·.1) (([],[]):Qv) t.2.1 x).2 with
 | true=>exact (h _ (W5 hb).1).2.2
 | false =>
  have:∀ l:List Qv,(Jt (·.1) (([],[]):Qv) l x).2=false→(Jt (·.1) (([],[]):Qv) l x).1=([],[]):=by
   intro l
   induction l with
   | nil=>intro _;rfl
   | cons e r ih =>
    intro h
    unfold Jt at h ⊢
    split
    ·rename_i hx;rw [if_pos hx] at h;cases h
    ·rename_i hx;rw [if_neg hx] at h;exact ih h
  rw [this _ hb]
  intro k hk
  cases hk
theorem Qw4 {s:Qa} (hs:SchLen s) {t:Qf} (ht:Xr t) (hr:∀ r∈t.2.1,r.2.length≤2000000) (hw:∀ r∈t.2.1,wfD Qr r) (w:Qz) (K:Option Bool):Zf K w.1 (Qhy w||decide (w.1=6)) s t w=bif HG s t w then K else some false:=by
 have hl:=Qef hr w.2.1
 have hc:(V7 (Qdu (YX t w.2.1).1)).length≤maxLen:=Nat.le_trans (Qil _) (by
  unfold Qdu
  rw [List.length_map]
  exact Nat.le_trans (List.length_filter_le _ _) (by unfold maxLen;omega))
 rw [Zf,Qc3 hs.t hs.typ,Gi ht.1,Option.bind_some,Option.bind_some,Ql8 hl,Option.bind_some,Qw hc,QoP hs,Qt9 (Qw3 hw _),HG]
 cases Qhy w||decide (w.1=6)<;>cases decide (w.1=1)<;>cases decide (w.1=2)<;>cases decide (w.2.1=([]:List Int))<;>cases decide (w.2.2=([]:List Int))<;>cases Xx s t.1 w.2.2<;>cases (YX t w.2.1).2<;>cases Qld s (YX t w.2.1).1 w.2.2<;>rfl
theorem QoQ {s:Qa} (hs:SchLen s) {t:Qf} (ht:Xr t) (hr:∀ r∈t.2.1,r.2.length≤2000000) (hw:∀ r∈t.2.1,wfD Qr r):∀ l:List Qz,QS s t l=some (l.all (HG s t))
 | []=>rfl
 | e::l=>by
  have key:=Qw4 hs ht hr hw e (QS s t l)
  rw [QS,List.all_cons]
  have e2:(bif HG s t e then QS s t l else some false)=some (HG s t e&&l.all (HG s t)):=by
   rw [QoQ hs ht hr hw l]
   cases HG s t e<;>rfl
  rw [← e2,← key]
  unfold Qhy
  by_cases h3:e.1=3
  ·simp [h3]
  ·by_cases h4:e.1=4
   ·simp [h4]
   ·by_cases h5:e.1=5
    ·simp [h5]
    ·simp [h3,h4,h5]
def EB (s:Qa) (t:Qf) (b:List Qz):Bool:=decide (1≤b.length)&&decide (b.length≤30)&&(match Jv b 10 0 with
 | none=>false
 | some p=>decide (p.2=b.length))&&b.all (HG s t)
theorem QrF {s:Qa} (hs:SchLen s) {t:Qf} (ht:Xr t) (hr:∀ r∈t.2.1,r.2.length≤2000000) (hw:∀ r∈t.2.1,wfD Qr r) {b:List Qz} (hb:b.length≤maxLen):Yi s t b=some (EB s t b):=by
 rw [Yi,QvY hb,Option.bind_some,Qw hb,QoQ hs ht hr hw,EB]
 have e1:decide ((b.length:Int)=0)=!decide (1≤b.length):=by grind
 have e2:decide ((30:Int)<(b.length:Int))=!decide (b.length≤30):=by grind
 have e3:decide (Qw1 (Jv b 10 0)=(b.length:Int))=(match Jv b 10 0 with | none=>false | some p=>decide (p.2=b.length)):=by
  cases Jv b 10 0 with
  | none=>exact decide_eq_false (by show ¬ (-1:Int)=_;omega)
  | some p=>show decide ((p.2:Int)=(b.length:Int))=_;simp only;grind
 rw [e1,e2,e3]
 generalize (match Jv b 10 0 with | none=>false | some p=>decide (p.2=b.length))=z
 cases decide (1≤b.length)<;>cases decide (b.length≤30)<;>cases z<;>cases b.all (HG s t)<;>rfl
end
end Go.Ab
