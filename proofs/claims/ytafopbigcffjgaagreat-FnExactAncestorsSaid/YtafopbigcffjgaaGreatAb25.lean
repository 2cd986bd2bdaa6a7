import Derived.Test.YtafopbigcffjgaaGreatAb23
namespace Go.Ab
noncomputable section
def QpG : Nat → Nat → List Int
 | 0,_=>[]
 | f + 1,n=>if n = 0 then [] else QpG f (n / 10) ++ [48 + ((n % 10 : Nat) : Int)]
def QaP (k : Int) : List Int:=if k ≤ 0 then [109,48] else 109 :: QpG (k.toNat + 1) k.toNat
def XG {α : Type} (f : α → Int → Int × α) : List α → Int → Int × List α
 | [],k=>(k,[])
 | x :: xs,k=>((XG f xs (f x k).1).1,(f x k).2 :: (XG f xs (f x k).1).2)
def Yg : (t : Ty) → t.den → Int → Int × t.den
 | .int k0,_,k=>(k + 1,k0.wrap k)
 | .bool,_,k=>(k + 1,decide (Int.tmod k 3 = 0))
 | .str,_,k=>(k + 1,QaP k)
 | .unit,x,k=>(k,x)
 | .pair a b,x,k=>((Yg b x.2 (Yg a x.1 k).1).1,((Yg a x.1 k).2,(Yg b x.2 (Yg a x.1 k).1).2))
 | .list t,xs,k=>XG (Yg t) xs k
 | .map _ _,x,k=>(k,x)
 | .tree _,x,k=>(k,x)
def YN : (t : Ty) → t.den → Int → Int × t.den
 | .pair a b,x,k=>((YN b x.2 (YN a x.1 k).1).1,((YN a x.1 k).2,(YN b x.2 (YN a x.1 k).1).2))
 | .list t,xs,k=>XG (Yg t) xs k
 | .int _,x,k=>(k,x)
 | .bool,x,k=>(k,x)
 | .str,x,k=>(k,x)
 | .unit,x,k=>(k,x)
 | .map _ _,x,k=>(k,x)
 | .tree _,x,k=>(k,x)
def VQ : (t : Ty) → t.den → Nat
 | .int _,_=>1
 | .bool,_=>1
 | .str,_=>1
 | .unit,_=>0
 | .pair a b,x=>VQ a x.1 + VQ b x.2
 | .list t,xs=>(List.map (VQ t) xs).sum
 | .map _ _,_=>0
 | .tree _,_=>0
def VC : (t : Ty) → t.den → Nat
 | .pair a b,x=>VC a x.1 + VC b x.2
 | .list t,xs=>(List.map (VQ t) xs).sum
 | .int _,_=>0
 | .bool,_=>0
 | .str,_=>0
 | .unit,_=>0
 | .map _ _,_=>0
 | .tree _,_=>0
def Q2 : Int:=1099511627776
theorem QjH {α : Type} {f : α → Int → Int × α} {g : α → Nat} (h : ∀ x k,(f x k).1 = k + g x) : ∀ (xs : List α) (k : Int),(XG f xs k).1 = k + ((xs.map g).sum : Nat)
 | [],k=>by simp [XG]
 | x :: xs,k=>by simp only [XG,QjH h xs,h,List.map_cons,List.sum_cons]; omega
theorem HN : ∀ (t : Ty) (x : t.den) (k : Int),(Yg t x k).1 = k + VQ t x
 | .int _,_,_=>rfl
 | .bool,_,_=>rfl
 | .str,_,_=>rfl
 | .unit,_,k=>(Int.add_zero k).symm
 | .pair a b,x,k=>by simp only [Yg,VQ,HN a,HN b]; omega
 | .list t,xs,k=>QjH (HN t) xs k
 | .map _ _,_,k=>(Int.add_zero k).symm
 | .tree _,_,k=>(Int.add_zero k).symm
theorem W1 : ∀ (t : Ty) (x : t.den) (k : Int),(YN t x k).1 = k + VC t x
 | .int _,_,k=>(Int.add_zero k).symm
 | .bool,_,k=>(Int.add_zero k).symm
 | .str,_,k=>(Int.add_zero k).symm
 | .unit,_,k=>(Int.add_zero k).symm
 | .pair a b,x,k=>by simp only [YN,VC,W1 a,W1 b]; omega
 | .list t,xs,k=>QjH (HN t) xs k
 | .map _ _,_,k=>(Int.add_zero k).symm
 | .tree _,_,k=>(Int.add_zero k).symm
inductive Act1 where
 | seti (off : Nat) | sety (off : Nat) | setb (off : Nat) | sets (off : Nat) | inc | sub (off : Nat) (t : Ty)
def QpH (cs : List V) (off : Nat) (v : V) (k : Int) : Option (List V × Int) :=
 match cs[off]? with
 | some c=>bif c.scl then some (cs.set off v,k) else none
 | none=>none
open Classical in
def XH : Act1 → List V × Int → Option (List V × Int)
 | .seti off,(cs,k)=>QpH cs off (.d (.int .i64) k) k
 | .sety off,(cs,k)=>QpH cs off (.d (.int .u8) (IntKind.wrap .u8 k)) k
 | .setb off,(cs,k)=>QpH cs off (.d .bool (decide (Int.tmod k 3 = 0))) k
 | .sets off,(cs,k)=>QpH cs off (.d .str (QaP k)) k
 | .inc,(cs,k)=>if k + 1 ≤ Q2 then some (cs,k + 1) else none
 | .sub off t,(cs,k)=>match Je t ((cs.drop off).take t.cells) with
  | some x=>if k + VC t x ≤ Q2 then some (Z4 cs off (Qm t (YN t x k).2),(YN t x k).1) else none
  | none=>none
def J3 : List Act1 → List V × Int → Option (List V × Int)
 | [],s=>some s
 | a :: l,s=>(XH a s).bind (J3 l)
theorem Qar : ∀ (l l' : List Act1) (s : List V × Int),J3 (l ++ l') s = (J3 l s).bind (J3 l')
 | [],l',s=>rfl
 | a :: l,l',s=>by
  simp only [List.cons_append,J3]
  cases XH a s with
  | none=>rfl
  | some s'=>exact Qar l l' s'
def Ty.mok : Ty → Bool
 | .int .i64 | .int .u8 | .bool | .str | .unit=>true
 | .pair a b=>a.mok && b.mok
 | .list t=>t.mok
 | _=>false
def Qd4 : Ty → Nat → List Act1
 | .int .i64,off=>[.seti off,.inc]
 | .int _,off=>[.sety off,.inc]
 | .bool,off=>[.setb off,.inc]
 | .str,off=>[.sets off,.inc]
 | .pair a b,off=>Qd4 a off ++ Qd4 b (off + a.cells)
 | .list t,off=>[.sub off (.list t)]
 | _,_=>[]
def Ty.beq (a b : Ty) : Bool:=match Ty.eq? a b with
 | some _=>true
 | none=>false
theorem Ty.beq_eq {a b : Ty} (h : a.beq b = true) : a = b:=by
 unfold Ty.beq at h
 split at h
 ·rename_i e _; exact e.down
 ·cases h
theorem cast?_self (t : Ty) (x : t.den) : cast? t t x = some x:=by
 obtain ⟨⟨h⟩,e⟩:=eq?_self t
 unfold cast?
 rw [e]
theorem Qb4 (t : Ty) (x : t.den) : Vq t (.d t x) = some x:=by
 have : Vq t (.d t x) = cast? t t x:=by cases t <;> rfl
 rw [this,cast?_self]
theorem W2 : ∀ (t : Ty) (x : t.den),t.dok = true → Je t (Qm t x) = some x
 | .int k,x,_=>Qb4 (.int k) x
 | .bool,x,_=>Qb4 .bool x
 | .str,x,_=>Qb4 .str x
 | .unit,x,_=>rfl
 | .list t,x,_=>Qb4 (.list t) x
 | .pair a b,x,h=>by
  simp only [Ty.dok,Bool.and_eq_true] at h
  have e1 : (Qm a x.1 ++ Qm b x.2).take a.cells = Qm a x.1:=by rw [← ZX a x.1,List.take_left]
  have e2 : (Qm a x.1 ++ Qm b x.2).drop a.cells = Qm b x.2:=by rw [← ZX a x.1,List.drop_left]
  simp only [Je,Qm,e1,e2,W2 a x.1 h.1,W2 b x.2 h.2]
theorem Qs0 {α : Type} (pre post : List α) (x y : α) : (pre ++ x :: post).set pre.length y = pre ++ y :: post:=by
 induction pre with
 | nil=>rfl
 | cons a pre ih=>simp [ih]
theorem WU : ∀ {t : Ty},t.mok = true → t.dok = true
 | .int _,_=>rfl
 | .bool,_=>rfl
 | .str,_=>rfl
 | .unit,_=>rfl
 | .pair a b,h=>by
  simp only [Ty.mok,Bool.and_eq_true] at h
  simp only [Ty.dok,Bool.and_eq_true]
  exact ⟨WU h.1,WU h.2⟩
 | .list t,h=>WU (t:=t) h
theorem QhV (pre post : List V) (x y : V) (k : Int) (hx : x.scl = true) : QpH (pre ++ x :: post) pre.length y k = some (pre ++ y :: post,k):=by
 unfold QpH
 have : (pre ++ x :: post)[pre.length]? = some x:=by simp
 rw [this]
 simp only [hx,cond_true,Qs0]
theorem Qs1 {t : Ty} (ht : t.dok = true) (pre post : List V) (x : t.den) (k : Int) (hk : k + VC t x ≤ Q2) : XH (.sub pre.length t) (pre ++ Qm t x ++ post,k) = some (pre ++ Qm t (YN t x k).2 ++ post,(YN t x k).1):=by
 have e1 : ((pre ++ Qm t x ++ post).drop pre.length).take t.cells = Qm t x:=by
  rw [List.append_assoc,List.drop_left,← ZX t x,List.take_left]
 simp only [XH,e1,W2 t x ht]
 rw [if_pos hk]
 congr 2
 unfold Z4
 rw [ZX,← ZX t x]
 have e2 : (pre ++ Qm t x ++ post).take pre.length = pre:=by rw [List.append_assoc,List.take_left]
 have e3 : (pre ++ Qm t x ++ post).drop (pre.length + (Qm t x).length) = post:=by rw [← List.length_append,List.drop_left]
 rw [e2,e3]
theorem wrap_i64 {k : Int} (h0 : 0 ≤ k) (h1 : k ≤ Q2) : IntKind.wrap .i64 k = k :=
 Qmf (Jz.2 (by rw [GI,VB]; unfold Q2 at h1; omega))
theorem QjI : ∀ (t : Ty),t.mok = true → ∀ (x : t.den) (pre post : List V) (k : Int) (rest : List Act1),0 ≤ k → k + VQ t x ≤ Q2 →
  J3 (Qd4 t pre.length ++ rest) (pre ++ Qm t x ++ post,k) = J3 rest (pre ++ Qm t (Yg t x k).2 ++ post,(Yg t x k).1)
 | .int k0,ht,x,pre,post,k,rest,h0,h1=>by
  have h1 : k + (1 : Nat) ≤ Q2:=h1
  cases k0 with
  | i64 =>
   simp only [Qd4,List.cons_append,List.nil_append,J3,XH,Qm,Yg,List.append_assoc]
   rw [QhV (hx:=rfl)]
   simp only [Option.bind_some]
   rw [if_pos (by omega),wrap_i64 h0 (by omega)]
   rfl
  | u8 =>
   simp only [Qd4,List.cons_append,List.nil_append,J3,XH,Qm,Yg,List.append_assoc]
   rw [QhV (hx:=rfl)]
   simp only [Option.bind_some]
   rw [if_pos (by omega)]
   rfl
  | _=>cases ht
 | .bool,_,x,pre,post,k,rest,h0,h1=>by
  have h1 : k + (1 : Nat) ≤ Q2:=h1
  simp only [Qd4,List.cons_append,List.nil_append,J3,XH,Qm,Yg,List.append_assoc]
  rw [QhV (hx:=rfl)]
  simp only [Option.bind_some]
  rw [if_pos (by omega)]
  rfl
 | .str,_,x,pre,post,k,rest,h0,h1=>by
  have h1 : k + (1 : Nat) ≤ Q2:=h1
  simp only [Qd4,List.cons_append,List.nil_append,J3,XH,Qm,Yg,List.append_assoc]
  rw [QhV (hx:=rfl)]
  simp only [Option.bind_some]
  rw [if_pos (by omega)]
  rfl
 | .unit,_,x,pre,post,k,rest,_,_=>rfl
 | .pair a b,ht,x,pre,post,k,rest,h0,h1=>by
  simp only [Ty.mok,Bool.and_eq_true] at ht
  simp only [VQ] at h1
  have ha:=QjI a ht.1 x.1 pre (Qm b x.2 ++ post) k (Qd4 b (pre.length + a.cells) ++ rest) h0 (by omega)
  have hb:=QjI b ht.2 x.2 (pre ++ Qm a (Yg a x.1 k).2) post (Yg a x.1 k).1 rest (by rw [HN]; omega) (by rw [HN]; omega)
  rw [List.length_append,ZX] at hb
  simp only [Qd4,Qm,Yg,List.append_assoc] at ha hb ⊢
  rw [ha,hb]
 | .list t,ht,xs,pre,post,k,rest,h0,h1=>by
  have:=Qs1 (t:=.list t) (WU (t:=.list t) ht) pre post xs k h1
  simp only [Qd4,List.cons_append,List.nil_append,J3,this,Option.bind_some]
  rfl
end
end Go.Ab
