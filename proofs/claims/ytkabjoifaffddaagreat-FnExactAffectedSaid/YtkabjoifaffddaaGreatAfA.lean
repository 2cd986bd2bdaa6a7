import Derived.Test.YtkabjoifaffddaaGreatStrata
namespace Go.Ab
section
variable {α:Type} [DecidableEq α]
def Qds (f:α→Bool) (i:α) (v:Bool):α→Bool:=fun x=>if x=i then v else f x
theorem Qf9 (f:α→Bool) (i:α) (v:Bool):Qds f i v i=v:=if_pos rfl
theorem Qbn (f:α→Bool) {i x:α} (v:Bool) (h:x≠i):Qds f i v x=f x:=if_neg h
def Qcz (E:List (Xq α)) (f:α→Bool):Prop:=∀ e∈E,f e.2.1=true→f e.1=true
def QkB (E:List (Xq α)) (S:α→Bool) (x:α):Prop:=∀ f:α→Bool,(∀ y,S y=true→f y=true)→Qcz E f→f x=true
def VK:List (Xq α)→(α→Bool)→Bool→(α→Bool) × Bool | [],f,t=>(f,t) | e::r,f,t=>if f e.2.1=true∧f e.1=false then VK r (Qds f e.1 true) true else VK r f t
theorem QkC:∀ {E:List (Xq α)} {f:α→Bool} {t:Bool} {x:α},f x=true→(VK E f t).1 x=true
 | [],_,_,_,h=>h
 | e::r,f,t,x,h=>by
  rw [VK]
  split
  ·refine QkC ?_
   unfold Qds;split
   ·rfl
   ·exact h
  ·exact QkC h
theorem Qla {g:α→Bool}:∀ {E:List (Xq α)} {f:α→Bool} {t:Bool},(∀ x,f x=true→g x=true)→Qcz E g→∀ x,(VK E f t).1 x=true→g x=true
 | [],_,_,h,_,x,hx=>h x hx
 | e::r,f,t,h,hc,x,hx=>by
  have hc':Qcz r g:=fun e' he'=>hc e' (List.mem_cons_of_mem _ he')
  rw [VK] at hx
  split at hx
  ·rename_i hs
   refine Qla (fun y hy=>?_) hc' x hx
   by_cases e1:y=e.1
   ·rw [e1];exact hc e List.mem_cons_self (h _ hs.1)
   ·rw [Qbn _ _ e1] at hy;exact h y hy
  ·exact Qla h hc' x hx
theorem Qfh:∀ {E:List (Xq α)} {f:α→Bool} {t:Bool},(VK E f t).2=false→t=false∧(VK E f t).1=f∧Qcz E f
 | [],f,t,h=>⟨h,rfl,fun e he=>by cases he⟩
 | e::r,f,t,h=>by
  rw [VK] at h ⊢
  split at h
  ·have:=(Qfh h).1
   cases this
  ·rename_i hs
   rw [if_neg hs]
   obtain ⟨h1,h2,h3⟩:=Qfh h
   refine ⟨h1,h2,fun e' he' hf=>?_⟩
   rcases List.mem_cons.1 he' with rfl | he'
   ·cases hx:f e'.1 with
    | true=>rfl
    | false=>exact (hs ⟨hf,hx⟩).elim
   ·exact h3 e' he' hf
theorem QoJ:∀ {E:List (Xq α)} {f:α→Bool} {t:Bool},Qcz E f→VK E f t=(f,t)
 | [],_,_,_=>rfl
 | e::r,f,t,h=>by
  rw [VK,if_neg (fun hs=>by have:=h e List.mem_cons_self hs.1;rw [hs.2] at this;cases this)]
  exact QoJ fun e' he'=>h e' (List.mem_cons_of_mem _ he')
def QwZ (N:List α) (f:α→Bool):Nat:=(N.filter f).length
omit [DecidableEq α] in
theorem QyH (N:List α) (f:α→Bool):QwZ N f≤N.length:=List.length_filter_le _ _
omit [DecidableEq α] in
theorem Qtc {p q:α→Bool}:∀ {N:List α},(∀ x∈N,p x=true→q x=true)→(N.filter p).length≤(N.filter q).length
 | [],_=>Nat.le_refl _
 | a::N,h=>by
  have h1:=Qtc (N:=N) fun x hx=>h x (List.mem_cons_of_mem _ hx)
  have h2:=h a List.mem_cons_self
  simp only [List.filter_cons]
  cases hp:p a with
  | true=>rw [h2 hp];simp;omega
  | false=>cases q a<;>simp<;>omega
theorem Qlb {N:List α}:∀ {E:List (Xq α)} {f:α→Bool},(∀ e∈E,e.1∈N)→(VK E f false).2=true→QwZ N f<QwZ N (VK E f false).1
 | [],_,_,h=>by cases h
 | e::r,f,hE,h=>by
  have hE':∀ e∈r,e.1∈N:=fun e he=>hE e (List.mem_cons_of_mem _ he)
  rw [VK] at h ⊢
  split at h
  ·rename_i hs
   rw [if_pos hs]
   have h1:QwZ N f<QwZ N (Qds f e.1 true):=Qht (a:=e.1) (fun x _ hx=>by
    unfold Qds;split
    ·rfl
    ·exact hx) (hE e List.mem_cons_self) hs.2 (Qf9 _ _ _)
   exact Nat.lt_of_lt_of_le h1 (Qtc fun x _ hx=>QkC hx)
  ·rename_i hs
   rw [if_neg hs]
   exact Qlb hE' h
theorem Qtd:∀ {E:List (Xq α)} {f:α→Bool} (t t':Bool),(VK E f t).1=(VK E f t').1
 | [],_,_,_=>rfl
 | e::r,f,t,t'=>by
  rw [VK,VK]
  split
  ·rfl
  ·exact Qtd t t'
theorem Qig:∀ (E1 E2:List (Xq α)) (f:α→Bool) (t:Bool),VK (E1++E2) f t=VK E2 (VK E1 f t).1 (VK E1 f t).2
 | [],_,_,_=>rfl
 | e::E1,E2,f,t=>by
  rw [List.cons_append,VK,VK]
  split
  ·exact Qig E1 E2 _ _
  ·exact Qig E1 E2 _ _
def QcA (E:List (Xq α)):Nat→(α→Bool)→α→Bool | 0,f=>f | k+1,f=>QcA E k (VK E f false).1
theorem Qte {E:List (Xq α)}:∀ (k:Nat) {f:α→Bool} {x:α},f x=true→QcA E k f x=true | 0,_,_,h=>h | k+1,_,_,h=>Qte k (QkC h)
theorem QqR {E:List (Xq α)} {g:α→Bool} (hc:Qcz E g):∀ (k:Nat) {f:α→Bool},(∀ x,f x=true→g x=true)→∀ x,QcA E k f x=true→g x=true | 0,_,h,x,hx=>h x hx | k+1,_,h,x,hx=>QqR hc k (Qla h hc) x hx
theorem QqS {E:List (Xq α)}:∀ (k:Nat) {f:α→Bool},Qcz E f→QcA E k f=f
 | 0,_,_=>rfl
 | k+1,f,h=>by rw [QcA,QoJ h];exact QqS k h
theorem QkD {E:List (Xq α)} {N:List α} (hE:∀ e∈E,e.1∈N):∀ (k:Nat) (f:α→Bool),N.length<QwZ N f+k→Qcz E (QcA E k f)
 | 0,f,h=>by have:=QyH N f;omega
 | k+1,f,h=>by
  rw [QcA]
  cases ht:(VK E f false).2 with
  | false =>
   obtain ⟨_,h2,h3⟩:=Qfh ht
   rw [h2,QqS k h3];exact h3
  | true =>
   have:=Qlb hE ht
   exact QkD hE k _ (by omega)
theorem Qt6 {E:List (Xq α)} {N:List α} (hE:∀ e∈E,e.1∈N) {S:α→Bool} {a:α} (ha:a∈N) (hs:S a=true) (x:α):QcA E N.length S x=true↔QkB E S x:=by
 constructor
 ·intro h f hf hc
  exact QqR hc _ hf x h
 ·intro h
  refine h _ (fun y hy=>Qte _ hy) (QkD hE _ _ ?_)
  have:0<QwZ N S:=List.length_pos_of_mem (List.mem_filter.2 ⟨ha,hs⟩)
  omega
omit [DecidableEq α] in
theorem Qx7 {E E':List (Xq α)} (h:∀ e,e∈E↔e∈E') (S:α→Bool) (x:α):QkB E S x↔QkB E' S x :=
 ⟨fun hr f hf hc=>hr f hf fun e he=>hc e ((h e).1 he),fun hr f hf hc=>hr f hf fun e he=>hc e ((h e).2 he)⟩
theorem Qzw {E:List (Xq α)} {S:α→Bool} {x:α}:QkB E S x↔∃ a,S a=true∧QkB E (fun y=>decide (y=a)) x:=by
 classical
 constructor
 ·intro h
  have:=h (fun y=>decide (∃ a,S a=true∧QkB E (fun z=>decide (z=a)) y)) (fun y hy=>decide_eq_true ⟨y,hy,fun f hf _=>hf y (decide_eq_true rfl)⟩) (fun e he hy=>by
   obtain ⟨a,h1,h2⟩:=of_decide_eq_true hy
   exact decide_eq_true ⟨a,h1,fun f hf hc=>hc e he (h2 f hf hc)⟩)
  exact of_decide_eq_true this
 ·rintro ⟨a,h1,h2⟩ f hf hc
  exact h2 f (fun y hy=>by rw [of_decide_eq_true hy];exact hf a h1) hc
theorem Qih {n:Nat} {E:List (Xq α)}:∀ {k:Nat} {lv lv':α→Nat},W4 n E k lv=some lv'→(∀ x,lv x≤n)→XT E lv'∧(∀ x,lv' x≤n)∧(∀ L,XT E L→(∀ x,lv x≤L x)→∀ x,lv' x≤L x)
 | 0,_,_,h,_=>by cases h
 | k+1,lv,lv',h,hb=>by
  simp only [W4] at h
  split at h
  ·cases h
  ·rename_i lv1 hp
   obtain ⟨h1,h2,h3⟩:=Qih h (Xw hp hb)
   exact ⟨h1,h2,fun L hL hl=>h3 L hL (passE_least hp hL hl)⟩
  ·rename_i lv1 hp
   cases h
   obtain ⟨_,h2,h3⟩:=Qaj hp
   exact ⟨by rw [h2];exact h3,Xw hp hb,fun L hL hl=>by rw [h2];exact hl⟩
where
 passE_least {n:Nat} {L:α→Nat}:∀ {E:List (Xq α)} {lv lv':α→Nat} {t t':Bool},Vo n E lv t=some (lv',t')→XT E L→(∀ x,lv x≤L x)→∀ x,lv' x≤L x
 | [],lv,lv',t,t',h,_,hl,x=>by
  simp only [Vo,Option.some.injEq,Prod.mk.injEq] at h
  rw [← h.1];exact hl x
 | e::r,lv,lv',t,t',h,hS,hl,x=>by
  have h1:=hS e List.mem_cons_self
  have h3:=hl e.2.1
  have hS':XT r L:=fun e he=>hS e (List.mem_cons_of_mem _ he)
  simp only [Vo] at h
  split at h
  ·cases h
  ·split at h
   ·refine passE_least h hS' (fun y=>?_) x
    by_cases hy:y=e.1
    ·subst hy;rw [H7];omega
    ·rw [Uz _ _ hy];exact hl y
   ·exact passE_least h hS' hl x
theorem QqT {n:Nat} {E:List (Xq α)}:∀ {k:Nat} {t:Bool} {lv lv':α→Nat},Qdr n E k t lv=some (some lv')→(∀ x,lv x≤n)→(t=false→XT E lv)→XT E lv'∧(∀ x,lv' x≤n)∧(∀ L,XT E L→(∀ x,lv x≤L x)→∀ x,lv' x≤L x)
 | 0,_,_,_,h,_,_=>by cases h
 | k+1,t,lv,lv',h,hb,ht=>by
  simp only [Qdr] at h
  cases t with
  | false =>
   simp only [Bool.false_eq_true,if_false,Option.some.injEq] at h
   subst h
   exact ⟨ht rfl,hb,fun L _ hl=>hl⟩
  | true =>
   simp only [if_true] at h
   split at h
   ·cases h
   ·rename_i lv1 t1 hp
    obtain ⟨h1,h2,h3⟩:=QqT h (Xw hp hb) (fun e=>by
     subst e
     obtain ⟨_,h2,h3⟩:=Qaj hp
     rw [h2];exact h3)
    exact ⟨h1,h2,fun L hL hl=>h3 L hL (Qih.passE_least hp hL hl)⟩
end
end Go.Ab
namespace Go.Ab
open Go.Proofs
noncomputable section
theorem Qt7 {x:List Int} (h:wfD .str x):x.length≤maxLen:=Nat.le_trans h.1 (by unfold maxLen;omega)
def Jt {β:Type} (name:β→List Int) (z:β):List β→List Int→β × Bool | [],_=>(z,false) | e::r,x=>if name e=x then (e,true) else Jt name z r x
theorem W5 {β:Type} {name:β→List Int} {z:β}:∀ {l:List β} {x:List Int},(Jt name z l x).2=true→(Jt name z l x).1∈l∧name (Jt name z l x).1=x
 | [],x,h=>by cases h
 | e::r,x,h=>by
  unfold Jt at h ⊢
  split
  ·rename_i hx;exact ⟨List.mem_cons_self,hx⟩
  ·rename_i hx
   rw [if_neg hx] at h
   obtain ⟨h1,h2⟩:=W5 h
   exact ⟨List.mem_cons_of_mem _ h1,h2⟩
theorem Qw0 {β:Type} {name:β→List Int} {z:β}:∀ {l:List β} {e:β},e∈l→(Jt name z l (name e)).2=true
 | a::r,e,h=>by
  unfold Jt
  split
  ·rfl
  ·rename_i hx
   rcases List.mem_cons.1 h with rfl | h
   ·exact absurd rfl hx
   ·exact Qw0 h
def Vf (s:Qa) (x:List Int):Qf × Bool:=Jt (·.1) ([],[],[]) s.2 x
def YX (t:Qf) (x:List Int):Qv × Bool:=Jt (·.1) ([],[]) t.2.1 x
def QuN (t:Qf) (x:List Int):Qq × Bool:=Jt (·.1) ([],[]) t.2.2 x
def Qdt (s:Qa) (x:List Int):Q0 × Bool:=Jt (·.1) ([],[],[]) s.1 x
def WL (l:List ZP) (x:List Int):ZP × Bool:=Jt (·.1) ([],0) l x
def Xx (s:Qa) (t n:List Int):Bool:=(Vf s t).2&&((YX (Vf s t).1 n).2||(QuN (Vf s t).1 n).2)
theorem QiP (x:List Int):∀ l:List Qf,Hl x l=some (Jt (·.1) ([],[],[]) l x)
 | []=>rfl
 | e::r=>by
  rw [Hl,QiP x r,Jt]
  by_cases h:e.1=x
  ·rw [decide_eq_true h,if_pos h];rfl
  ·rw [decide_eq_false h,if_neg h];rfl
theorem Qgt {s:Qa} (h:s.2.length≤maxLen) (x:List Int):Xt s x=some (Vf s x):=by
 rw [Xt,Qw h,QiP];rfl
theorem QkE (x:List Int):∀ l:List Qf,Je x l=some (Jt (·.1) ([],[],[]) l x)
 | []=>rfl
 | e::r=>by
  rw [Je,QkE x r,Jt]
  by_cases h:e.1=x
  ·rw [decide_eq_true h,if_pos h];rfl
  ·rw [decide_eq_false h,if_neg h];rfl
theorem Qd7 {s:Qa} (h:s.2.length≤maxLen) (x:List Int):Zo s x=some (Vf s x):=by
 rw [Zo,Qw h,QkE];rfl
theorem QdO (x:List Int):∀ l:List Qv,V8 x l=some (Jt (·.1) ([],[]) l x)
 | []=>rfl
 | e::r=>by
  rw [V8,QdO x r,Jt]
  by_cases h:e.1=x
  ·rw [decide_eq_true h,if_pos h];rfl
  ·rw [decide_eq_false h,if_neg h];rfl
theorem Hz {t:Qf} (h:t.2.1.length≤maxLen) (x:List Int):Zh t x=some (YX t x):=by
 rw [Zh,Qw h,QdO];rfl
theorem Qfi (x:List Int):∀ l:List Qv,ZW x l=some (Jt (·.1) ([],[]) l x)
 | []=>rfl
 | e::r=>by
  rw [ZW,Qfi x r,Jt]
  by_cases h:e.1=x
  ·rw [decide_eq_true h,if_pos h];rfl
  ·rw [decide_eq_false h,if_neg h];rfl
theorem Gi {t:Qf} (h:t.2.1.length≤maxLen) (x:List Int):QG t x=some (YX t x):=by
 rw [QG,Qw h,Qfi];rfl
theorem QbH (x:List Int):∀ l:List Qq,Vc x l=some (Jt (·.1) ([],[]) l x)
 | []=>rfl
 | e::r=>by
  rw [Vc,QbH x r,Jt]
  by_cases h:e.1=x
  ·rw [decide_eq_true h,if_pos h];rfl
  ·rw [decide_eq_false h,if_neg h];rfl
theorem QlL {t:Qf} (h:t.2.2.length≤maxLen) (x:List Int):HL t x=some (QuN t x):=by
 rw [HL,Qw h,QbH];rfl
theorem Qc2 (x:List Int):∀ l:List Qq,ZL x l=some (Jt (·.1) ([],[]) l x)
 | []=>rfl
 | e::r=>by
  rw [ZL,Qc2 x r,Jt]
  by_cases h:e.1=x
  ·rw [decide_eq_true h,if_pos h];rfl
  ·rw [decide_eq_false h,if_neg h];rfl
theorem Qfj {t:Qf} (h:t.2.2.length≤maxLen) (x:List Int):Jm t x=some (QuN t x):=by
 rw [Jm,Qw h,Qc2];rfl
theorem Qga (x:List Int):∀ l:List Q0,G6 x l=some (Jt (·.1) ([],[],[]) l x)
 | []=>rfl
 | e::r=>by
  rw [G6,Qga x r,Jt]
  by_cases h:e.1=x
  ·rw [decide_eq_true h,if_pos h];rfl
  ·rw [decide_eq_false h,if_neg h];rfl
theorem QiQ {s:Qa} (h:s.1.length≤maxLen) (x:List Int):GT s x=some (Qdt s x):=by
 rw [GT,Qw h,Qga];rfl
theorem Qhu (x:List Int):∀ l:List ZP,XG x l=some (Jt (·.1) ([],0) l x)
 | []=>rfl
 | e::r=>by
  rw [XG,Qhu x r,Jt]
  by_cases h:e.1=x
  ·rw [decide_eq_true h,if_pos h];rfl
  ·rw [decide_eq_false h,if_neg h];rfl
theorem Qfk {l:List ZP} (h:l.length≤maxLen) (x:List Int):Gt l x=some (WL l x):=by
 rw [Gt,Qw h,Qhu];rfl
theorem QiR (x:List Int):∀ l:List ZP,JB x l=some (Jt (·.1) ([],0) l x)
 | []=>rfl
 | e::r=>by
  rw [JB,QiR x r,Jt]
  by_cases h:e.1=x
  ·rw [decide_eq_true h,if_pos h];rfl
  ·rw [decide_eq_false h,if_neg h];rfl
theorem Qgu {c:Q0} (h:c.2.1.length≤maxLen) (x:List Int):Z7 c x=some (WL c.2.1 x):=by
 rw [Z7,Qw h,QiR];rfl
def Xr (t:Qf):Prop:=t.2.1.length≤maxLen∧t.2.2.length≤maxLen
theorem Qlc {s:Qa} (h:∀ t∈s.2,Xr t) (x:List Int):Xr (Vf s x).1:=by
 unfold Vf
 cases hb:(Jt (·.1) (([],[],[]):Qf) s.2 x).2 with
 | true=>exact h _ (W5 hb).1
 | false =>
  have:∀ l:List Qf,(Jt (·.1) (([],[],[]):Qf) l x).2=false→(Jt (·.1) (([],[],[]):Qf) l x).1=([],[],[]):=by
   intro l
   induction l with
   | nil=>intro _;rfl
   | cons e r ih =>
    intro h
    unfold Jt at h ⊢
    split
    ·rename_i hx;rw [if_pos hx] at h;cases h
    ·rename_i hx;rw [if_neg hx] at h;exact ih h
  rw [this _ hb]
  exact ⟨Nat.zero_le _,Nat.zero_le _⟩
theorem Qfl {s:Qa} (h:s.2.length≤maxLen) (ht:∀ t∈s.2,Xr t) (t n:List Int):Vz s t n=some (Xx s t n):=by
 have h2:=Qlc ht t
 rw [Vz,Qgt h,Option.bind_some,Hz h2.1,Option.bind_some,QlL h2.2,Option.bind_some,Xx]
 cases (Vf s t).2<;>cases (YX (Vf s t).1 n).2<;>rfl
theorem Qc3 {s:Qa} (h:s.2.length≤maxLen) (ht:∀ t∈s.2,Xr t) (t n:List Int):QQ s t n=some (Xx s t n):=by
 have h2:=Qlc ht t
 rw [QQ,Qd7 h,Option.bind_some,Gi h2.1,Option.bind_some,Qfj h2.2,Option.bind_some,Xx]
 cases (Vf s t).2<;>cases (YX (Vf s t).1 n).2<;>rfl
def Qqc (op k:Int):Bool:=decide (op=1)||((decide (op=2)||decide (op=3))&&(decide (k=2)||decide (k=3)||decide (k=5)||decide (k=7)))||(decide (op=4)&&decide (k=6))
theorem Qtf (op k:Int):XN op k=some (Qqc op k):=by
 rw [XN,XM,XM,Qqc]
 simp only [Qn0,QvQ,WV,QaK]
 grind (splits:=30)
theorem Qnq (k:Int) (x:Vs) (p:ZP):Vw k x p=some (decide (k=p.2)&&Qqc x.2.1 k):=by
 rw [Vw,Vv,Vv,Qqc]
 simp only [Qn0,QvQ,WV,QaK]
 grind (splits:=30)
def Qii (ps:List ZP) (x:Vs):Bool:=(WL ps x.1).2&&(bif !decide (x.2.2.1=([]:List Int)) then (WL ps x.2.2.1).2&&decide (x.2.2.2=((0,0,[],[]):Atm))&&decide ((WL ps x.2.2.1).1.2=(WL ps x.1).1.2)&&Qqc x.2.1 (WL ps x.2.2.1).1.2 else Hi x.2.2.2&&decide (x.2.2.2.1=(WL ps x.1).1.2)&&Qqc x.2.1 x.2.2.2.1)
theorem QrE {x:Vs} {ps:List ZP} (hp:ps.length≤maxLen) (hx:wfD QN x.2.2.2):Hj x ps=some (Qii ps x):=by
 rw [Hj,Qfk hp,Option.bind_some,Qfk hp,Qdq hx]
 simp only [Option.bind_some,Qnq,Qii]
 have e:@decide (x.2.2.2=(0,0,([]:List Int),([]:List Int))) (Ty.decEq QN x.2.2.2 (0,0,([]:List Int),([]:List Int)))=decide (x.2.2.2=((0,0,[],[]):Atm)):=decide_eq_decide.2 Iff.rfl
 rw [e]
 cases (WL ps x.1).2<;>cases decide (x.2.2.1=([]:List Int))<;>cases (WL ps x.2.2.1).2<;>cases decide (x.2.2.2=((0,0,[],[]):Atm))<;>cases Hi x.2.2.2<;>simp
def Qhv (a b:ZP):Bool:=Zn a.1 b.1
def QoK (p:ZP):Bool:=Jj p.1&&!decide (p.1=([116,114,117,101]:List Int))&&!decide (p.1=([102,97,108,115,101]:List Int))&&decide (1≤p.2)&&decide (p.2≤7)
def Qc4 (c:Q0):Bool:=Jj c.1&&decide (1≤c.2.1.length)&&decide (c.2.1.length≤6)&&decide (1≤c.2.2.length)&&decide (c.2.2.length≤6)&&(c.2.1.all QoK&&Q9 Qhv c.2.1)&&c.2.2.all (Qii c.2.1)
theorem Qtg {x:Vs} (h:wfD QP x):wfD QN x.2.2.2:=h.2.2.2
theorem QoL (c:Q0) (hp:c.2.1.length≤maxLen):∀ l:List Vs,(∀ x∈l,wfD QP x)→Vx c l=some (l.all (Qii c.2.1))
 | [],_=>rfl
 | e::r,h=>by
  rw [Vx,QrE hp (Qtg (h e List.mem_cons_self)),Option.bind_some,QoL c hp r fun x hx=>h x (List.mem_cons_of_mem _ hx),List.all_cons]
  cases Qii c.2.1 e<;>rfl
theorem QoM (c:Q0) (hp:c.2.1.length≤maxLen):∀ l:List Vs,(∀ x∈l,wfD QP x)→JK c l=some (l.all (Qii c.2.1))
 | [],_=>rfl
 | e::r,h=>by
  have ih:=QoM c hp r fun x hx=>h x (List.mem_cons_of_mem _ hx)
  rw [JK,Qgu hp,Option.bind_some,Qgu hp,EV (Qtg (h e List.mem_cons_self)),ih,List.all_cons,Qcl]
  simp only [Option.bind_some,Xl,Qtf,Qii]
  cases (WL c.2.1 e.1).2<;>cases decide (e.2.2.1=([]:List Int))<;>cases (WL c.2.1 e.2.2.1).2<;>cases decide (e.2.2.2=((0,0,[],[]):Atm))<;>cases Hi e.2.2.2<;>simp<;>grind
theorem Ql4 (c:Q0) (hw:∀ x∈c.2.1,wfD QO x) (hl:c.2.1.length≤maxLen) (ht:c.2.2.length≤maxLen) (hx:∀ x∈c.2.2,wfD QP x) :
  ∀ (r:List ZP) (k:Nat),r=c.2.1.drop k→JX c r k=some ((r.all QoK&&QM Qhv (Zp c.2.1 k) r)&&c.2.2.all (Qii c.2.1))
 | [],k,_=>by rw [JX,Qw ht,QoL c hl _ hx,ZD];rfl
 | e::r,k,h=>by
  obtain ⟨h1,h2,h3,h4,h5⟩:=VL (d:=Ty.dflt QO) hl h
  have he:=hw e h4
  rw [JX,G1 (Qt7 he.1),Option.bind_some,Ql4 c hw hl ht hx r (k+1) h1,h2,Hb,List.all_cons,QoK]
  rcases h5 with rfl | ⟨h5,h6,h7,h8⟩
  ·simp [Zp]
   grind
  ·rw [h6,h7,Js (hw _ h8).1 he.1,Option.bind_some,Qar]
   simp only [Qhv]
   generalize (rd c.2.1 (IntKind.wrap .i64 ((k:Int) - 1)) (Ty.dflt QO)).1=q
   grind
theorem Ql5 (c:Q0) (hw:∀ x∈c.2.1,wfD QO x) (hl:c.2.1.length≤maxLen) (ht:c.2.2.length≤maxLen) (hx:∀ x∈c.2.2,wfD QP x) :
  ∀ (r:List ZP) (k:Nat),r=c.2.1.drop k→J1 c r k=some ((r.all QoK&&QM Qhv (Zp c.2.1 k) r)&&c.2.2.all (Qii c.2.1))
 | [],k,_=>by rw [J1,Qw ht,QoM c hl _ hx,ZD];rfl
 | e::r,k,h=>by
  obtain ⟨h1,h2,h3,h4,h5⟩:=VL (d:=Ty.dflt QO) hl h
  have he:=hw e h4
  rw [J1,G2 (Qt7 he.1),Option.bind_some,Ql5 c hw hl ht hx r (k+1) h1,h2,Hb,List.all_cons,QoK]
  rcases h5 with rfl | ⟨h5,h6,h7,h8⟩
  ·simp [Zp]
   grind
  ·rw [h6,h7]
   simp only [Qhv]
   generalize (rd c.2.1 (IntKind.wrap .i64 ((k:Int) - 1)) (Ty.dflt QO)).1=q
   grind
end
end Go.Ab
