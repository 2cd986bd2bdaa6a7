import Derived.Test.YtgmdnickgijkoaaGreatDoorAb23
namespace Go.Ab
noncomputable section
def QEM : Nat → Nat → List Int
 | 0,_=>[]
 | f + 1,n=>if n = 0 then [] else QEM f (n / 10) ++ [48 + ((n % 10 : Nat) : Int)]
def Qcx (k : Int) : List Int:=if k ≤ 0 then [109,48] else 109 :: QEM (k.toNat + 1) k.toNat
def QP {α : Type} (f : α → Int → Int × α) : List α → Int → Int × List α
 | [],k=>(k,[])
 | x :: xs,k=>((QP f xs (f x k).1).1,(f x k).2 :: (QP f xs (f x k).1).2)
def QJ : (t : Ty) → t.den → Int → Int × t.den
 | .int k0,_,k=>(k + 1,k0.wrap k)
 | .bool,_,k=>(k + 1,decide (Int.tmod k 3 = 0))
 | .str,_,k=>(k + 1,Qcx k)
 | .unit,x,k=>(k,x)
 | .pair a b,x,k=>((QJ b x.2 (QJ a x.1 k).1).1,((QJ a x.1 k).2,(QJ b x.2 (QJ a x.1 k).1).2))
 | .list t,xs,k=>QP (QJ t) xs k
 | .map _ _,x,k=>(k,x)
 | .tree _,x,k=>(k,x)
def JQ : (t : Ty) → t.den → Int → Int × t.den
 | .pair a b,x,k=>((JQ b x.2 (JQ a x.1 k).1).1,((JQ a x.1 k).2,(JQ b x.2 (JQ a x.1 k).1).2))
 | .list t,xs,k=>QP (QJ t) xs k
 | .int _,x,k=>(k,x)
 | .bool,x,k=>(k,x)
 | .str,x,k=>(k,x)
 | .unit,x,k=>(k,x)
 | .map _ _,x,k=>(k,x)
 | .tree _,x,k=>(k,x)
def X4 : (t : Ty) → t.den → Nat
 | .int _,_=>1
 | .bool,_=>1
 | .str,_=>1
 | .unit,_=>0
 | .pair a b,x=>X4 a x.1 + X4 b x.2
 | .list t,xs=>(List.map (X4 t) xs).sum
 | .map _ _,_=>0
 | .tree _,_=>0
def Xb : (t : Ty) → t.den → Nat
 | .pair a b,x=>Xb a x.1 + Xb b x.2
 | .list t,xs=>(List.map (X4 t) xs).sum
 | .int _,_=>0
 | .bool,_=>0
 | .str,_=>0
 | .unit,_=>0
 | .map _ _,_=>0
 | .tree _,_=>0
def Zz : Int:=1099511627776
theorem Qw8 {α : Type} {f : α → Int → Int × α} {g : α → Nat} (h : ∀ x k,(f x k).1 = k + g x) : ∀ (xs : List α) (k : Int),(QP f xs k).1 = k + ((xs.map g).sum : Nat)
 | [],k=>by simp [QP]
 | x :: xs,k=>by simp only [QP,Qw8 h xs,h,List.map_cons,List.sum_cons]; omega
theorem QcS : ∀ (t : Ty) (x : t.den) (k : Int),(QJ t x k).1 = k + X4 t x
 | .int _,_,_=>rfl
 | .bool,_,_=>rfl
 | .str,_,_=>rfl
 | .unit,_,k=>(Int.add_zero k).symm
 | .pair a b,x,k=>by simp only [QJ,X4,QcS a,QcS b]; omega
 | .list t,xs,k=>Qw8 (QcS t) xs k
 | .map _ _,_,k=>(Int.add_zero k).symm
 | .tree _,_,k=>(Int.add_zero k).symm
theorem VO : ∀ (t : Ty) (x : t.den) (k : Int),(JQ t x k).1 = k + Xb t x
 | .int _,_,k=>(Int.add_zero k).symm
 | .bool,_,k=>(Int.add_zero k).symm
 | .str,_,k=>(Int.add_zero k).symm
 | .unit,_,k=>(Int.add_zero k).symm
 | .pair a b,x,k=>by simp only [JQ,Xb,VO a,VO b]; omega
 | .list t,xs,k=>Qw8 (QcS t) xs k
 | .map _ _,_,k=>(Int.add_zero k).symm
 | .tree _,_,k=>(Int.add_zero k).symm
inductive Act1 where
 | seti (off : Nat) | sety (off : Nat) | setb (off : Nat) | sets (off : Nat) | inc | sub (off : Nat) (t : Ty)
def QEN (cs : List V) (off : Nat) (v : V) (k : Int) : Option (List V × Int) :=
 match cs[off]? with
 | some c=>bif c.scl then some (cs.set off v,k) else none
 | none=>none
open Classical in
def Qa8 : Act1 → List V × Int → Option (List V × Int)
 | .seti off,(cs,k)=>QEN cs off (.d (.int .i64) k) k
 | .sety off,(cs,k)=>QEN cs off (.d (.int .u8) (IntKind.wrap .u8 k)) k
 | .setb off,(cs,k)=>QEN cs off (.d .bool (decide (Int.tmod k 3 = 0))) k
 | .sets off,(cs,k)=>QEN cs off (.d .str (Qcx k)) k
 | .inc,(cs,k)=>if k + 1 ≤ Zz then some (cs,k + 1) else none
 | .sub off t,(cs,k)=>match Vk t ((cs.drop off).take t.cells) with
  | some x=>if k + Xb t x ≤ Zz then some (Y5 cs off (Qq t (JQ t x k).2),(JQ t x k).1) else none
  | none=>none
def Y0 : List Act1 → List V × Int → Option (List V × Int)
 | [],s=>some s
 | a :: l,s=>(Qa8 a s).bind (Y0 l)
theorem QdZ : ∀ (l l' : List Act1) (s : List V × Int),Y0 (l ++ l') s = (Y0 l s).bind (Y0 l')
 | [],l',s=>rfl
 | a :: l,l',s=>by
  simp only [List.cons_append,Y0]
  cases Qa8 a s with
  | none=>rfl
  | some s'=>exact QdZ l l' s'
def Ty.mok : Ty → Bool
 | .int .i64 | .int .u8 | .bool | .str | .unit=>true
 | .pair a b=>a.mok && b.mok
 | .list t=>t.mok
 | _=>false
def QoG : Ty → Nat → List Act1
 | .int .i64,off=>[.seti off,.inc]
 | .int _,off=>[.sety off,.inc]
 | .bool,off=>[.setb off,.inc]
 | .str,off=>[.sets off,.inc]
 | .pair a b,off=>QoG a off ++ QoG b (off + a.cells)
 | .list t,off=>[.sub off (.list t)]
 | _,_=>[]
def Ty.beq (a b : Ty) : Bool:=match Ty.eq? a b with
 | some _=>true
 | none=>false
theorem Ty.beq_eq {a b : Ty} (h : a.beq b = true) : a = b:=by
 unfold Ty.beq at h
 split at h
 ·rename_i e _; exact e.down
 ·cases h
def QID (off : Nat) (t : Ty) : List Act1 → Option (List Act1)
 | .sub o t' :: rest=>bif Nat.beq o off && Ty.beq t' t then some rest else none
 | _=>none
def QHY : Ty → Nat → List Act1 → Option (List Act1)
 | .list t,off,acts=>QID off (.list t) acts
 | .pair a b,off,acts=>match QID off (.pair a b) acts with
  | some r=>some r
  | none=>(QHY a off acts).bind (QHY b (off + a.cells))
 | .int _,_,acts=>some acts
 | .bool,_,acts=>some acts
 | .str,_,acts=>some acts
 | .unit,_,acts=>some acts
 | _,_,_=>none
theorem QC9 {off : Nat} {t : Ty} {acts rest : List Act1} (h : QID off t acts = some rest) : acts = .sub off t :: rest:=by
 unfold QID at h
 split at h
 case h_2=>cases h
 obtain ⟨h0,h⟩:=Qm h
 simp only [Bool.and_eq_true] at h0
 rw [Nat.eq_of_beq_eq_true h0.1,Ty.beq_eq h0.2,Option.some.inj h]
theorem cast?_self (t : Ty) (x : t.den) : cast? t t x = some x:=by
 obtain ⟨⟨h⟩,e⟩:=eq?_self t
 unfold cast?
 rw [e]
theorem Qlh (t : Ty) (x : t.den) : HP t (.d t x) = some x:=by
 have : HP t (.d t x) = cast? t t x:=by cases t <;> rfl
 rw [this,cast?_self]
theorem QcT : ∀ (t : Ty) (x : t.den),t.dok = true → Vk t (Qq t x) = some x
 | .int k,x,_=>Qlh (.int k) x
 | .bool,x,_=>Qlh .bool x
 | .str,x,_=>Qlh .str x
 | .unit,x,_=>rfl
 | .list t,x,_=>Qlh (.list t) x
 | .pair a b,x,h=>by
  simp only [Ty.dok,Bool.and_eq_true] at h
  have e1 : (Qq a x.1 ++ Qq b x.2).take a.cells = Qq a x.1:=by rw [← Jp a x.1,List.take_left]
  have e2 : (Qq a x.1 ++ Qq b x.2).drop a.cells = Qq b x.2:=by rw [← Jp a x.1,List.drop_left]
  simp only [Vk,Qq,e1,e2,QcT a x.1 h.1,QcT b x.2 h.2]
theorem QIE {α : Type} (pre post : List α) (x y : α) : (pre ++ x :: post).set pre.length y = pre ++ y :: post:=by
 induction pre with
 | nil=>rfl
 | cons a pre ih=>simp [ih]
theorem EA : ∀ {t : Ty},t.mok = true → t.dok = true
 | .int _,_=>rfl
 | .bool,_=>rfl
 | .str,_=>rfl
 | .unit,_=>rfl
 | .pair a b,h=>by
  simp only [Ty.mok,Bool.and_eq_true] at h
  simp only [Ty.dok,Bool.and_eq_true]
  exact ⟨EA h.1,EA h.2⟩
 | .list t,h=>EA (t:=t) h
theorem QuF (pre post : List V) (x y : V) (k : Int) (hx : x.scl = true) : QEN (pre ++ x :: post) pre.length y k = some (pre ++ y :: post,k):=by
 unfold QEN
 have : (pre ++ x :: post)[pre.length]? = some x:=by simp
 rw [this]
 simp only [hx,cond_true,QIE]
theorem QDT {t : Ty} (ht : t.dok = true) (pre post : List V) (x : t.den) (k : Int) (hk : k + Xb t x ≤ Zz) : Qa8 (.sub pre.length t) (pre ++ Qq t x ++ post,k) = some (pre ++ Qq t (JQ t x k).2 ++ post,(JQ t x k).1):=by
 have e1 : ((pre ++ Qq t x ++ post).drop pre.length).take t.cells = Qq t x:=by
  rw [List.append_assoc,List.drop_left,← Jp t x,List.take_left]
 simp only [Qa8,e1,QcT t x ht]
 rw [if_pos hk]
 congr 2
 unfold Y5
 rw [Jp,← Jp t x]
 have e2 : (pre ++ Qq t x ++ post).take pre.length = pre:=by rw [List.append_assoc,List.take_left]
 have e3 : (pre ++ Qq t x ++ post).drop (pre.length + (Qq t x).length) = post:=by rw [← List.length_append,List.drop_left]
 rw [e2,e3]
theorem wrap_i64 {k : Int} (h0 : 0 ≤ k) (h1 : k ≤ Zz) : IntKind.wrap .i64 k = k :=
 QAJ (VW.2 (by rw [Ew,Uc]; unfold Zz at h1; omega))
theorem Qw9 : ∀ (t : Ty),t.mok = true → ∀ (x : t.den) (pre post : List V) (k : Int) (rest : List Act1),0 ≤ k → k + X4 t x ≤ Zz →
  Y0 (QoG t pre.length ++ rest) (pre ++ Qq t x ++ post,k) = Y0 rest (pre ++ Qq t (QJ t x k).2 ++ post,(QJ t x k).1)
 | .int k0,ht,x,pre,post,k,rest,h0,h1=>by
  have h1 : k + (1 : Nat) ≤ Zz:=h1
  cases k0 with
  | i64 =>
   simp only [QoG,List.cons_append,List.nil_append,Y0,Qa8,Qq,QJ,List.append_assoc]
   rw [QuF (hx:=rfl)]
   simp only [Option.bind_some]
   rw [if_pos (by omega),wrap_i64 h0 (by omega)]
   rfl
  | u8 =>
   simp only [QoG,List.cons_append,List.nil_append,Y0,Qa8,Qq,QJ,List.append_assoc]
   rw [QuF (hx:=rfl)]
   simp only [Option.bind_some]
   rw [if_pos (by omega)]
   rfl
  | _=>cases ht
 | .bool,_,x,pre,post,k,rest,h0,h1=>by
  have h1 : k + (1 : Nat) ≤ Zz:=h1
  simp only [QoG,List.cons_append,List.nil_append,Y0,Qa8,Qq,QJ,List.append_assoc]
  rw [QuF (hx:=rfl)]
  simp only [Option.bind_some]
  rw [if_pos (by omega)]
  rfl
 | .str,_,x,pre,post,k,rest,h0,h1=>by
  have h1 : k + (1 : Nat) ≤ Zz:=h1
  simp only [QoG,List.cons_append,List.nil_append,Y0,Qa8,Qq,QJ,List.append_assoc]
  rw [QuF (hx:=rfl)]
  simp only [Option.bind_some]
  rw [if_pos (by omega)]
  rfl
 | .unit,_,x,pre,post,k,rest,_,_=>rfl
 | .pair a b,ht,x,pre,post,k,rest,h0,h1=>by
  simp only [Ty.mok,Bool.and_eq_true] at ht
  simp only [X4] at h1
  have ha:=Qw9 a ht.1 x.1 pre (Qq b x.2 ++ post) k (QoG b (pre.length + a.cells) ++ rest) h0 (by omega)
  have hb:=Qw9 b ht.2 x.2 (pre ++ Qq a (QJ a x.1 k).2) post (QJ a x.1 k).1 rest (by rw [QcS]; omega) (by rw [QcS]; omega)
  rw [List.length_append,Jp] at hb
  simp only [QoG,Qq,QJ,List.append_assoc] at ha hb ⊢
  rw [ha,hb]
 | .list t,ht,xs,pre,post,k,rest,h0,h1=>by
  have:=QDT (t:=.list t) (EA (t:=.list t) ht) pre post xs k h1
  simp only [QoG,List.cons_append,List.nil_append,Y0,this,Option.bind_some]
  rfl
theorem QBt : ∀ (t : Ty),t.dok = true → ∀ (x : t.den) (pre post : List V) (k : Int) (acts rest : List Act1),QHY t pre.length acts = some rest → 0 ≤ k → k + Xb t x ≤ Zz →
  Y0 acts (pre ++ Qq t x ++ post,k) = Y0 rest (pre ++ Qq t (JQ t x k).2 ++ post,(JQ t x k).1)
 | .int _,_,x,pre,post,k,acts,rest,h,_,_=>by cases h; rfl
 | .bool,_,x,pre,post,k,acts,rest,h,_,_=>by cases h; rfl
 | .str,_,x,pre,post,k,acts,rest,h,_,_=>by cases h; rfl
 | .unit,_,x,pre,post,k,acts,rest,h,_,_=>by cases h; rfl
 | .list t,ht,xs,pre,post,k,acts,rest,h,h0,h1=>by
  rw [QC9 h]
  simp only [Y0,QDT ht pre post xs k h1,Option.bind_some]
 | .pair a b,ht,x,pre,post,k,acts,rest,h,h0,h1=>by
  unfold QHY at h
  split at h
  ·rename_i r hr
   cases h
   rw [QC9 hr]
   simp only [Y0,QDT ht pre post x k h1,Option.bind_some]
  ·obtain ⟨mid,hm,h⟩:=Option.bind_eq_some_iff.1 h
   simp only [Ty.dok,Bool.and_eq_true] at ht
   simp only [Xb] at h1
   have ha:=QBt a ht.1 x.1 pre (Qq b x.2 ++ post) k acts mid hm h0 (by omega)
   have hb:=QBt b ht.2 x.2 (pre ++ Qq a (JQ a x.1 k).2) post (JQ a x.1 k).1 mid rest (by rw [List.length_append,Jp]; exact h) (by rw [VO]; omega) (by rw [VO]; omega)
   simp only [Qq,JQ,List.append_assoc] at ha hb ⊢
   rw [ha,hb]
end
end Go.Ab
