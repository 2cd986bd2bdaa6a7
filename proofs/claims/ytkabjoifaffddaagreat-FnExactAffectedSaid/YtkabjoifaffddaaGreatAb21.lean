import Derived.Test.YtkabjoifaffddaaGreatAb19
import Derived.Laws.BitsLemmas
namespace Go.Ab
noncomputable section
theorem Qgk {x:Int} (h:-9223372036854775808≤x∧x≤9223372036854775807):IntKind.i64.wrap x=x:=by
 rw [IntKind.wrap_i64]
 omega
def QhS {α σ R:Type} (body:α→Int→σ→(σ→Option R)→Option R) (fin:σ→Option R):Nat→List α→σ→Option R | _,[],s=>fin s | k,x::xs,s=>body x k s fun s'=>QhS body fin (k+1) xs s'
theorem QhT {α σ R:Type} {xs:List α} {d:α} (hlen:xs.length≤maxLen) {L:Nat→σ→Int→Option R} {body:α→Int→σ→(σ→Option R)→Option R} {fin:σ→Option R}
  (h:∀ n s i,L (n+1) s i=bif decide (i<(xs.length:Int)) then bif inB i xs.length then body (rd xs i d) i s (fun s'=>L n s' (IntKind.wrap .i64 (i+1))) else none else fin s) :
  ∀ (n k:Nat) (s:σ),k≤xs.length→xs.length<n+k→L n s (k:Int)=QhS body fin k (xs.drop k) s
 | 0,k,s,hk,hn=>by omega
 | n+1,k,s,hk,hn=>by
  rw [h]
  rcases Nat.lt_or_ge k xs.length with hlt | hge
  ·rw [decide_eq_true (by omega),List.drop_eq_getElem_cons hlt]
   have hin:inB (k:Int) xs.length=true:=Vr.2 (by omega)
   rw [hin]
   simp only [cond_true,QhS]
   have hrd:rd xs (k:Int) d=xs[k]:=by simp [rd,List.getD,List.getElem?_eq_getElem hlt]
   rw [hrd]
   congr 1
   funext s'
   have hw:IntKind.wrap .i64 ((k:Int)+1)=((k+1:Nat):Int):=by
    unfold maxLen at hlen
    rw [Qgk (by omega)]
    omega
   rw [hw]
   exact QhT hlen h n (k+1) s' hlt (by omega)
  ·have:k=xs.length:=by omega
   subst this
   rw [decide_eq_false (by omega),List.drop_length]
   rfl
theorem QpC {α σ R:Type} {xs:List α} {d:α} (hlen:xs.length≤maxLen) {L:Nat→σ→Int→Option R} {body:α→Int→σ→(σ→Option R)→Option R} {fin:σ→Option R}
  (h:∀ n s i,L (n+1) s i=bif decide (i<(xs.length:Int)) then bif inB i xs.length then body (rd xs i d) i s (fun s'=>L n s' (IntKind.wrap .i64 (i+1))) else none else fin s) (s:σ) :
  L (xs.length+1) s 0=QhS body fin 0 xs s:=by
 have:=QhT hlen h (xs.length+1) 0 s (Nat.zero_le _) (by omega)
 simpa using this
def Ty.size:(t:Ty)→t.den→Nat
 | .str,x=>List.length (α:=Int) x
 | .list t,xs=>List.length (α:=t.den) xs+((show List t.den from xs).map t.size).sum
 | .pair a b,x=>a.size x.1+b.size x.2
 | _,_=>0
def Vn (left:Int) (n:Nat):Int:=if (n:Int)≤left then left - n else -1
theorem Qzh {left:Int} {n m:Nat} (h:0≤Vn left n):Vn (Vn left n) m=Vn left (n+m):=by
 unfold Vn at *
 split at h
 ·rename_i h1
  rw [if_pos h1]
  split<;>split<;>omega
 ·omega
theorem Qzi {left:Int} {n m:Nat} (h:Vn left n<0):Vn left (n+m)=-1:=by
 unfold Vn at *
 split at h
 ·omega
 ·rw [if_neg (by omega)]
theorem QAl {left:Int} {n:Nat} (h:0≤left):Vn left n≤left:=by
 unfold Vn;split<;>omega
theorem QxQ {left:Int} {n:Nat} (h0:0≤left) (h1:left≤1099511627776) (hn:n≤maxLen):IntKind.wrap .i64 (left - (n:Int))=left - n:=by
 unfold maxLen at hn
 exact Qgk (by omega)
open Classical in
def szC (t:Ty) (x:t.den) (left:Int):Option Int:=if wfD t x∧0≤left∧left≤1099511627776 then some (Vn left (t.size x)) else none
theorem QnV {t:Ty} {x:t.den} {left:Int} (h:wfD t x) (h0:0≤left) (h1:left≤1099511627776):szC t x left=some (Vn left (t.size x)):=by
 unfold szC
 rw [if_pos ⟨h,h0,h1⟩]
theorem QvJ {t:Ty} {x:t.den} {left y:Int} (h:szC t x left=some y):wfD t x∧0≤left∧left≤1099511627776∧y=Vn left (t.size x):=by
 unfold szC at h
 split at h
 ·rename_i h1
  cases h
  exact ⟨h1.1,h1.2.1,h1.2.2,rfl⟩
 ·cases h
def QsS (t:Ty) (f:t.den→Int→Option Int) (x:t.den) (_:Int) (s:Int) (K:Int→Option Int):Option Int:=Option.bind (f x s) fun y=>bif decide (y<0) then some (-1) else K y
theorem QyA {t:Ty}:∀ (xs:List t.den) (k:Nat) (s:Int),(∀ x∈xs,wfD t x)→0≤s→s≤1099511627776→QhS (QsS t (szC t)) some k xs s=some (Vn s (xs.map t.size).sum)
 | [],k,s,_,h0,_=>by
  simp only [QhS,List.map_nil,List.sum_nil,Vn]
  rw [if_pos (by omega)]
  simp
 | x::xs,k,s,hw,h0,h1=>by
  simp only [QhS,QsS,List.map_cons,List.sum_cons]
  rw [QnV (hw x (by simp)) h0 h1]
  simp only [Option.bind_some]
  cases hd:decide (Vn s (t.size x)<0) with
  | true =>
   have hd:=of_decide_eq_true hd
   rw [Qzi hd]
   rfl
  | false =>
   have hd:=of_decide_eq_false hd
   simp only [cond_false]
   rw [QyA xs (k+1) _ (fun y hy=>hw y (by simp [hy])) (by omega) (by have:=QAl (n:=t.size x) h0;omega),Qzh (by omega)]
theorem QyB {xs:List Int} (h:wfD .str xs):xs.length≤maxLen:=by
 have:=h.1
 unfold maxLen
 omega
end
end Go.Ab
namespace Go.Ab
noncomputable section
theorem QjG {t:Ty} {xs:List t.den} (h:wfD (.list t) xs):xs.length≤maxLen∧∀ x∈xs,wfD t x:=h
theorem QnW {l:Int} {n:Nat} {K:Int→Option Int} {tot:Int} (h0:0≤l) (h1:l≤1099511627776) (hn:n≤maxLen) (hout:l<n→tot=-1) (hK:(n:Int)≤l→K (l - n)=some tot) :
  (bif decide (IntKind.wrap .i64 (l - (n:Int))<0) then some (-1) else K (IntKind.wrap .i64 (l - (n:Int))))=some tot:=by
 rw [QxQ h0 h1 hn]
 rcases Int.lt_or_le l n with h | h
 ·rw [decide_eq_true (by omega),hout h];rfl
 ·rw [decide_eq_false (by omega)];exact hK h
theorem QAm {t:Ty} {L:Nat→List t.den→Int→Int→Option Int} {d:t.den}
  (hL:∀ n xs s i,L (n+1) xs s i=bif decide (i<(xs.length:Int)) then bif inB i xs.length then QsS t (szC t) (rd xs i d) i s (fun s'=>L n xs s' (IntKind.wrap .i64 (i+1))) else none else some s)
  {a0:List t.den} {a1 y:Int} (hy:szC (.list t) a0 a1=some y):∃ n,(bif decide (IntKind.wrap .i64 (a1 - (a0.length:Int))<0) then some (-1) else L n a0 (IntKind.wrap .i64 (a1 - (a0.length:Int))) 0)=some y:=by
 obtain ⟨hw,h0,h1,rfl⟩:=QvJ hy
 obtain ⟨hl,hx⟩:=QjG hw
 have hs:(Ty.list t).size a0=a0.length+(a0.map t.size).sum:=rfl
 refine ⟨a0.length+1,QnW (K:=fun s=>L (a0.length+1) a0 s 0) h0 h1 hl (fun h=>?_) (fun h=>?_)⟩
 ·rw [hs];unfold Vn;rw [if_neg (by omega)]
 ·have:=QpC (L:=fun n s i=>L n a0 s i) (body:=QsS t (szC t)) (fin:=some) hl (fun n s i=>hL n a0 s i) (a1 - a0.length)
  rw [this,QyA a0 0 _ hx (by omega) (by omega),hs]
  congr 1
  unfold Vn
  split<;>split<;>omega
theorem QA1 {L:Nat→List (List Int)→Int→Int→Option Int} {d:List Int}
  (hL:∀ n xs s i,L (n+1) xs s i=bif decide (i<(xs.length:Int)) then bif inB i xs.length then
   (bif decide (IntKind.wrap .i64 (s - ((rd xs i d).length:Int))<0) then some (-1) else L n xs (IntKind.wrap .i64 (s - ((rd xs i d).length:Int))) (IntKind.wrap .i64 (i+1))) else none else some s)
  {a0:List (List Int)} {a1 y:Int} (hy:szC (.list .str) a0 a1=some y):∃ n,(bif decide (IntKind.wrap .i64 (a1 - (a0.length:Int))<0) then some (-1) else L n a0 (IntKind.wrap .i64 (a1 - (a0.length:Int))) 0)=some y:=by
 obtain ⟨hw,h0,h1,rfl⟩:=QvJ hy
 obtain ⟨hl,hx⟩:=QjG (t:=.str) hw
 have hs:(Ty.list .str).size a0=a0.length+(a0.map (Ty.size .str)).sum:=rfl
 have hit:∀ (xs:List (List Int)) (k:Nat) (s:Int),(∀ x∈xs,wfD .str x)→0≤s→s≤1099511627776 →
   QhS (fun (x:List Int) (_:Int) (s:Int) K=>bif decide (IntKind.wrap .i64 (s - (x.length:Int))<0) then some (-1) else K (IntKind.wrap .i64 (s - (x.length:Int)))) some k xs s=some (Vn s (xs.map (Ty.size .str)).sum):=by
  intro xs
  induction xs with
  | nil=>intro k s _ h0 _;simp [QhS,Vn,h0]
  | cons x xs ih =>
   intro k s hw h0 h1
   have hx:x.length≤maxLen:=by
    have:=(hw x (by simp)).1
    unfold maxLen
    omega
   have hsz:Ty.size .str x=x.length:=rfl
   refine QnW (K:=fun s'=>QhS _ some (k+1) xs s') h0 h1 hx (fun h=>?_) (fun h=>?_)
   ·simp only [List.map_cons,List.sum_cons,hsz]
    unfold Vn;rw [if_neg (by omega)]
   ·show QhS _ some (k+1) xs (s - x.length)=_
    rw [ih (k+1) _ (fun y hy=>hw y (by simp [hy])) (by omega) (by omega)]
    simp only [List.map_cons,List.sum_cons,hsz]
    congr 1
    unfold Vn
    split<;>split<;>omega
 refine ⟨a0.length+1,QnW (K:=fun s=>L (a0.length+1) a0 s 0) h0 h1 hl (fun h=>?_) (fun h=>?_)⟩
 ·rw [hs];unfold Vn;rw [if_neg (by omega)]
 ·have:=QpC (L:=fun n s i=>L n a0 s i) (body:=fun (x:List Int) (_:Int) (s:Int) K=>bif decide (IntKind.wrap .i64 (s - (x.length:Int))<0) then some (-1) else K (IntKind.wrap .i64 (s - (x.length:Int)))) (fin:=some) hl (fun n s i=>hL n a0 s i) (a1 - a0.length)
  rw [this,hit a0 0 _ hx (by omega) (by omega),hs]
  congr 1
  unfold Vn
  split<;>split<;>omega
theorem QA2 {t:Ty} {x:t.den} {l:Int} {K:Int→Option Int} {tot:Int} (hw:wfD t x) (h0:0≤l) (h1:l≤1099511627776) (hout:l<t.size x→tot=-1) (hK:(t.size x:Int)≤l→K (l - t.size x)=some tot) :
  (Option.bind (szC t x l) fun y=>bif decide (y<0) then some (-1) else K y)=some tot:=by
 rw [QnV hw h0 h1]
 simp only [Option.bind_some]
 unfold Vn
 split
 ·rename_i h
  rw [decide_eq_false (by omega)]
  exact hK h
 ·rename_i h
  rw [decide_eq_true (by omega),hout (by omega)];rfl
open Classical in
def toC (t:Ty) (x:t.den):Option t.den:=if wfD t x∧t.size x≤1073741824 then some x else none
theorem Qer {t:Ty} {x:t.den} (h:wfD t x) (h0:t.size x≤1073741824):toC t x=some x:=by
 unfold toC
 rw [if_pos ⟨h,h0⟩]
theorem QrS {t:Ty} {x y:t.den} (h:toC t x=some y):wfD t x∧t.size x≤1073741824∧y=x:=by
 unfold toC at h
 split at h
 ·rename_i h1;cases h;exact ⟨h1.1,h1.2,rfl⟩
 ·cases h
theorem QvK {n:Nat}:∀ {l:List Nat},n∈l→n≤l.sum
 | m::l,h=>by
  rcases List.mem_cons.1 h with rfl | h
  ·simp
  ·have:=QvK h
   simp only [List.sum_cons]
   omega
theorem QwK {α:Type} {pre:List α} {x z:α} {r:Nat}:(pre++List.replicate (r+1) z).set pre.length x=(pre++[x])++List.replicate r z:=by
 rw [List.set_append_right _ _ (Nat.le_refl _),Nat.sub_self,List.replicate_succ,List.set_cons_zero]
 simp
theorem QBz {t:Ty} {f:t.den→Option t.den} (hf:∀ x:t.den,wfD t x→t.size x≤1073741824→f x=some x) {L:Nat→List t.den→Int→List t.den→Option (List t.den)} {d z:t.den} {by_:Nat} (hby:by_≤100000)
  (hL:∀ n xs i out,L (n+1) xs i out=bif decide (i<(xs.length:Int)) then bif inB i xs.length then (Option.bind (f (rd xs i d)) fun y=>bif inB i out.length then
   bif inB i out.length&&true&&true&&true&&true then L n xs (IntKind.wrap .i64 (i+1)) (out.set (Int.toNat i) y) else none else none) else none else some out)
  {a0 y:List t.den} (hy:toC (.list t) a0=some y):∃ n,(bif decide ((a0.length:Int)=(a0.length:Int))&&decide ((0:Int)≤(a0.length:Int))&&decide ((a0.length:Int)*(by_:Int)≤Q4)&&true then L n a0 0 (List.replicate (Int.toNat (a0.length:Int)) z) else none)=some y:=by
 obtain ⟨hw,hs,rfl⟩:=QrS hy
 obtain ⟨hl,hx⟩:=QjG hw
 have hsz:(Ty.list t).size y=y.length+(y.map t.size).sum:=rfl
 have hel:∀ x∈y,t.size x≤1073741824:=by
  intro x hm
  have:=QvK (List.mem_map_of_mem (f:=t.size) hm)
  omega
 have hroom:(y.length:Int)*(by_:Int)≤Q4:=by
  have h1:(y.length:Int)≤1073741824:=by omega
  have h2:(by_:Int)≤100000:=by omega
  have h3:=Int.mul_le_mul h1 h2 (by omega) (by omega)
  rw [Xf]
  omega
 refine ⟨y.length+1,?_⟩
 rw [decide_eq_true rfl,decide_eq_true (by omega:(0:Int)≤(y.length:Int)),decide_eq_true hroom]
 simp only [Bool.and_self,cond_true]
 have hbody:=QhT (L:=fun n s i=>L n y i s) (fin:=some) (d:=d) hl (body:=fun x i s K=>Option.bind (f x) fun y=>bif inB i s.length then bif inB i s.length&&true&&true&&true&&true then K (s.set (Int.toNat i) y) else none else none) (fun n s i=>hL n y i s) (y.length+1) 0
 have hgo:∀ (xs pre:List t.den),(∀ x∈xs,wfD t x∧t.size x≤1073741824)→QhS (fun x (i:Int) (s:List t.den) K=>Option.bind (f x) fun y=>bif inB i s.length then bif inB i s.length&&true&&true&&true&&true then K (s.set (Int.toNat i) y) else none else none) some pre.length xs (pre++List.replicate xs.length z)=some (pre++xs):=by
  intro xs
  induction xs with
  | nil=>intro pre _;simp [QhS]
  | cons x xs ih =>
   intro pre hh
   simp only [QhS]
   rw [hf x (hh x (by simp)).1 (hh x (by simp)).2]
   simp only [Option.bind_some]
   have hin:inB (pre.length:Int) (pre++List.replicate (x::xs).length z).length=true:=Vr.2 (by simp;omega)
   rw [hin]
   simp only [Bool.and_self,cond_true,Int.toNat_natCast,List.length_cons]
   rw [QwK]
   have:=ih (pre++[x]) (fun w hw=>hh w (by simp [hw]))
   simp only [List.length_append,List.length_singleton] at this
   rw [this]
   simp
 have h2:=hgo y [] (fun x hm=>⟨hx x hm,hel x hm⟩)
 simp only [List.nil_append,List.length_nil] at h2
 have h3:=hbody (List.replicate (Int.toNat (y.length:Int)) z) (Nat.zero_le _) (by omega)
 simp only [Int.toNat_natCast,List.drop_zero] at h3
 simp only [Int.toNat_natCast]
 exact h3.trans h2
open Classical in
def eqC (t:Ty) (x y:t.den):Option Bool:=if x=y∧wfD t x then some true else none
theorem QjH {t:Ty} {x:t.den} (h:wfD t x):eqC t x x=some true:=by
 unfold eqC
 rw [if_pos ⟨rfl,h⟩]
theorem QyC {t:Ty} {x y:t.den} {b:Bool} (h:eqC t x y=some b):x=y∧wfD t x∧b=true:=by
 unfold eqC at h
 split at h
 ·rename_i h1;cases h;exact ⟨h1.1,h1.2,rfl⟩
 ·cases h
theorem QBA {t:Ty} {body:t.den→t.den→(Unit→Option Bool)→Option Bool} (hf:∀ x K,wfD t x→body x x K=K ()) {L:Nat→List t.den→List t.den→Int→Option Bool} {d:t.den}
  (hL:∀ n xs ys i,L (n+1) xs ys i=bif decide (i<(xs.length:Int)) then bif inB i xs.length then bif inB i ys.length then body (rd xs i d) (rd ys i d) (fun _=>L n xs ys (IntKind.wrap .i64 (i+1))) else none else none else some true)
  {a0 a1:List t.den} {y:Bool} (hy:eqC (.list t) a0 a1=some y):∃ n,(bif !decide ((a0.length:Int)=(a1.length:Int)) then some false else L n a0 a1 0)=some y:=by
 obtain ⟨rfl,hw,rfl⟩:=QyC hy
 obtain ⟨hl,hx⟩:=QjG hw
 refine ⟨a0.length+1,?_⟩
 rw [decide_eq_true rfl]
 simp only [Bool.not_true,cond_false]
 have h1:=QpC (L:=fun n (_:Unit) i=>L n a0 a0 i) (fin:=fun _=>some true) (d:=d) hl (body:=fun x i _ K=>bif inB i a0.length then body x x (fun _=>K ()) else none) (fun n s i=>by
  rw [hL n a0 a0 i]) ()
 rw [h1]
 have hgo:∀ (xs:List t.den) (k:Nat),(∀ x∈xs,wfD t x)→k+xs.length=a0.length→QhS (fun x (i:Int) (_:Unit) K=>bif inB i a0.length then body x x (fun _=>K ()) else none) (fun _=>some true) k xs ()=some true:=by
  intro xs
  induction xs with
  | nil=>intro k _ _;rfl
  | cons x xs ih =>
   intro k hh hk
   simp only [QhS,List.length_cons] at hk ⊢
   rw [Vr.2 (by omega)]
   simp only [cond_true]
   rw [hf x _ (hh x (by simp))]
   exact ih (k+1) (fun w hw=>hh w (by simp [hw])) (by omega)
 exact hgo a0 0 hx (by simp)
end
end Go.Ab
