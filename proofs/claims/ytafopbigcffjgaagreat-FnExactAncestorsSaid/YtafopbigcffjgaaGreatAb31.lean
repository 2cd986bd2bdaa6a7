import Derived.Test.YtafopbigcffjgaaGreatAb30
namespace Go.Ab
theorem QoU {t : Ty} {f : t.den → Option t.den} (hf : ∀ x : t.den,wfD t x → t.size x ≤ 1073741824 → f x = some x) {L : Nat → List t.den → Int → List t.den → Option (List t.den)} {d z : t.den} {by_ : Nat} (hby : by_ ≤ 100000)
  (hL : ∀ n xs i out,L (n + 1) xs i out = bif decide (i < (xs.length : Int)) then bif inB i xs.length then (Option.bind (f (rd xs i d)) fun y=>bif inB i out.length then
   bif inB i out.length && true && true && true && true && true && true then L n xs (IntKind.wrap .i64 (i + 1)) (out.set (Int.toNat i) y) else none else none) else none else some out)
  {a0 y : List t.den} (hy : toC (.list t) a0 = some y) : ∃ n,(bif decide ((a0.length : Int) = (a0.length : Int)) && decide ((0 : Int) ≤ (a0.length : Int)) && decide ((a0.length : Int) * (by_ : Int) ≤ JA) && true && true && true then L n a0 0 (List.replicate (Int.toNat (a0.length : Int)) z) else none) = some y:=by
 obtain ⟨hw,hs,rfl⟩:=Qb3 hy
 obtain ⟨hl,hx⟩:=Qd2 hw
 have hsz : (Ty.list t).size y = y.length + (y.map t.size).sum:=rfl
 have hel : ∀ x ∈ y,t.size x ≤ 1073741824:=by
  intro x hm
  have:=Qqs (List.mem_map_of_mem (f:=t.size) hm)
  omega
 have hroom : (y.length : Int) * (by_ : Int) ≤ JA:=by
  have h1 : (y.length : Int) ≤ 1073741824:=by omega
  have h2 : (by_ : Int) ≤ 100000:=by omega
  have h3:=Int.mul_le_mul h1 h2 (by omega) (by omega)
  rw [Yv]
  omega
 refine ⟨y.length + 1,?_⟩
 rw [decide_eq_true rfl,decide_eq_true (by omega : (0 : Int) ≤ (y.length : Int)),decide_eq_true hroom]
 simp only [Bool.and_self,cond_true]
 have hbody:=Qb2 (L:=fun n s i=>L n y i s) (fin:=some) (d:=d) hl (body:=fun x i s K=>Option.bind (f x) fun y=>bif inB i s.length then bif inB i s.length && true && true && true && true && true && true then K (s.set (Int.toNat i) y) else none else none) (fun n s i=>hL n y i s) (y.length + 1) 0
 have hgo : ∀ (xs pre : List t.den),(∀ x ∈ xs,wfD t x ∧ t.size x ≤ 1073741824) → Qb1 (fun x (i : Int) (s : List t.den) K=>Option.bind (f x) fun y=>bif inB i s.length then bif inB i s.length && true && true && true && true && true && true then K (s.set (Int.toNat i) y) else none else none) some pre.length xs (pre ++ List.replicate xs.length z) = some (pre ++ xs):=by
  intro xs
  induction xs with
  | nil=>intro pre _; simp [Qb1]
  | cons x xs ih =>
   intro pre hh
   simp only [Qb1]
   rw [hf x (hh x (by simp)).1 (hh x (by simp)).2]
   simp only [Option.bind_some]
   have hin : inB (pre.length : Int) (pre ++ List.replicate (x :: xs).length z).length = true:=Jn.2 (by simp; omega)
   rw [hin]
   simp only [Bool.and_self,cond_true,Int.toNat_natCast,List.length_cons]
   rw [QpF]
   have:=ih (pre ++ [x]) (fun w hw=>hh w (by simp [hw]))
   simp only [List.length_append,List.length_singleton] at this
   rw [this]
   simp
 have h2:=hgo y [] (fun x hm=>⟨hx x hm,hel x hm⟩)
 simp only [List.nil_append,List.length_nil] at h2
 have h3:=hbody (List.replicate (Int.toNat (y.length : Int)) z) (Nat.zero_le _) (by omega)
 simp only [Int.toNat_natCast,List.drop_zero] at h3
 simp only [Int.toNat_natCast]
 exact h3.trans h2
def Ty.wid : Ty → Nat
 | .int _=>1
 | .bool=>1
 | .str=>1
 | .unit=>0
 | .pair a b=>a.wid + b.wid
 | .list t=>t.wid
 | .map _ _=>0
 | .tree _=>0
theorem Qqv {α : Type} {f g : α → Nat} {W : Nat} (h : ∀ x,f x ≤ W * (g x + 1)) : ∀ xs : List α,(xs.map f).sum ≤ W * (xs.length + (xs.map g).sum)
 | []=>by simp
 | x :: xs=>by
  have h1:=h x
  have h2:=Qqv h xs
  simp only [List.map_cons,List.sum_cons,List.length_cons]
  have e : W * (xs.length + 1 + (g x + (xs.map g).sum)) = W * (g x + 1) + W * (xs.length + (xs.map g).sum):=by rw [← Nat.mul_add]; congr 1; omega
  omega
theorem QhZ : ∀ (t : Ty) (x : t.den),VQ t x ≤ t.wid * (t.size x + 1)
 | .int _,_=>by simp [VQ,Ty.wid,Ty.size]
 | .bool,_=>by simp [VQ,Ty.wid,Ty.size]
 | .str,x=>by simp only [VQ,Ty.wid]; omega
 | .unit,_=>by simp [VQ]
 | .pair a b,x=>by
  have h1:=QhZ a x.1
  have h2:=QhZ b x.2
  simp only [VQ,Ty.wid,Ty.size]
  have e1 : a.wid * (a.size x.1 + 1) ≤ a.wid * (a.size x.1 + b.size x.2 + 1):=Nat.mul_le_mul_left _ (by omega)
  have e2 : b.wid * (b.size x.2 + 1) ≤ b.wid * (a.size x.1 + b.size x.2 + 1):=Nat.mul_le_mul_left _ (by omega)
  rw [Nat.add_mul]
  omega
 | .list t,xs=>by
  have h:=Qqv (QhZ t) (show List t.den from xs)
  simp only [VQ,Ty.wid,Ty.size]
  have e : t.wid * (List.length (α:=t.den) xs + (List.map t.size xs).sum) ≤ t.wid * (List.length (α:=t.den) xs + (List.map t.size xs).sum + 1):=Nat.mul_le_mul_left _ (by omega)
  exact Nat.le_trans h e
 | .map _ _,_=>by simp [VQ]
 | .tree _,_=>by simp [VQ]
theorem Qm1 : ∀ (t : Ty) (x : t.den),VC t x ≤ t.wid * t.size x
 | .int _,_=>by simp [VC]
 | .bool,_=>by simp [VC]
 | .str,x=>by simp [VC]
 | .unit,_=>by simp [VC]
 | .pair a b,x=>by
  have h1:=Qm1 a x.1
  have h2:=Qm1 b x.2
  simp only [VC,Ty.wid,Ty.size]
  have e1 : a.wid * a.size x.1 ≤ a.wid * (a.size x.1 + b.size x.2):=Nat.mul_le_mul_left _ (by omega)
  have e2 : b.wid * b.size x.2 ≤ b.wid * (a.size x.1 + b.size x.2):=Nat.mul_le_mul_left _ (by omega)
  rw [Nat.add_mul]
  omega
 | .list t,xs=>Qqv (QhZ t) (show List t.den from xs)
 | .map _ _,_=>by simp [VC]
 | .tree _,_=>by simp [VC]
theorem Qm2 {t : Ty} {x : t.den} {k : Int} (h0 : 0 ≤ k) (h1 : k + VC t x ≤ Q2) : Qcz t x k = some (YN t x k):=by
 unfold Qcz
 rw [if_pos ⟨h0,h1⟩]
theorem Qqw {t : Ty} {x : t.den} {n : Nat} (hs : t.size x ≤ n) (hw : t.wid ≤ 100000) : VC t x ≤ 100000 * n :=
 Nat.le_trans (Qm1 t x) (Nat.mul_le_mul hw hs)
end Go.Ab
