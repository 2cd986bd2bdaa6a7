import Derived.Test.YtgmdnickgijkoaaGreatDoorAb30
namespace Go.Ab
theorem Qxa {t : Ty} {f : t.den → Option t.den} (hf : ∀ x : t.den,wfD t x → t.size x ≤ 1073741824 → f x = some x) {L : Nat → List t.den → Int → List t.den → Option (List t.den)} {d z : t.den} {by_ : Nat} (hby : by_ ≤ 100000)
  (hL : ∀ n xs i out,L (n + 1) xs i out = bif decide (i < (xs.length : Int)) then bif inB i xs.length then (Option.bind (f (rd xs i d)) fun y=>bif inB i out.length then
   bif inB i out.length && true && true && true && true && true && true then L n xs (IntKind.wrap .i64 (i + 1)) (out.set (Int.toNat i) y) else none else none) else none else some out)
  {a0 y : List t.den} (hy : toC (.list t) a0 = some y) : ∃ n,(bif decide ((a0.length : Int) = (a0.length : Int)) && decide ((0 : Int) ≤ (a0.length : Int)) && decide ((a0.length : Int) * (by_ : Int) ≤ Qv) && true && true && true then L n a0 0 (List.replicate (Int.toNat (a0.length : Int)) z) else none) = some y:=by
 obtain ⟨hw,hs,rfl⟩:=Wh hy
 obtain ⟨hl,hx⟩:=QoE hw
 have hsz : (Ty.list t).size y = y.length + (y.map t.size).sum:=rfl
 have hel : ∀ x ∈ y,t.size x ≤ 1073741824:=by
  intro x hm
  have:=QFN (List.mem_map_of_mem (f:=t.size) hm)
  omega
 have hroom : (y.length : Int) * (by_ : Int) ≤ Qv:=by
  have h1 : (y.length : Int) ≤ 1073741824:=by omega
  have h2 : (by_ : Int) ≤ 100000:=by omega
  have h3:=Int.mul_le_mul h1 h2 (by omega) (by omega)
  rw [ZP]
  omega
 refine ⟨y.length + 1,?_⟩
 rw [decide_eq_true rfl,decide_eq_true (by omega : (0 : Int) ≤ (y.length : Int)),decide_eq_true hroom]
 simp only [Bool.and_self,cond_true]
 have hbody:=Qlg (L:=fun n s i=>L n y i s) (fin:=some) (d:=d) hl (body:=fun x i s K=>Option.bind (f x) fun y=>bif inB i s.length then bif inB i s.length && true && true && true && true && true && true then K (s.set (Int.toNat i) y) else none else none) (fun n s i=>hL n y i s) (y.length + 1) 0
 have hgo : ∀ (xs pre : List t.den),(∀ x ∈ xs,wfD t x ∧ t.size x ≤ 1073741824) → Qlf (fun x (i : Int) (s : List t.den) K=>Option.bind (f x) fun y=>bif inB i s.length then bif inB i s.length && true && true && true && true && true && true then K (s.set (Int.toNat i) y) else none else none) some pre.length xs (pre ++ List.replicate xs.length z) = some (pre ++ xs):=by
  intro xs
  induction xs with
  | nil=>intro pre _; simp [Qlf]
  | cons x xs ih =>
   intro pre hh
   simp only [Qlf]
   rw [hf x (hh x (by simp)).1 (hh x (by simp)).2]
   simp only [Option.bind_some]
   have hin : inB (pre.length : Int) (pre ++ List.replicate (x :: xs).length z).length = true:=VD.2 (by simp; omega)
   rw [hin]
   simp only [Bool.and_self,cond_true,Int.toNat_natCast,List.length_cons]
   rw [QEK]
   have:=ih (pre ++ [x]) (fun w hw=>hh w (by simp [hw]))
   simp only [List.length_append,List.length_singleton] at this
   rw [this]
   simp
 have h2:=hgo y [] (fun x hm=>⟨hx x hm,hel x hm⟩)
 simp only [List.nil_append,List.length_nil] at h2
 have h3:=hbody (List.replicate (Int.toNat (y.length : Int)) z) (Nat.zero_le _) (by omega)
 simp only [Int.toNat_natCast,List.drop_zero] at h3
 simp only [Int.toNat_natCast]
 exact h3.trans h2
def Ty.wid : Ty → Nat
 | .int _=>1
 | .bool=>1
 | .str=>1
 | .unit=>0
 | .pair a b=>a.wid + b.wid
 | .list t=>t.wid
 | .map _ _=>0
 | .tree _=>0
theorem QFW {α : Type} {f g : α → Nat} {W : Nat} (h : ∀ x,f x ≤ W * (g x + 1)) : ∀ xs : List α,(xs.map f).sum ≤ W * (xs.length + (xs.map g).sum)
 | []=>by simp
 | x :: xs=>by
  have h1:=h x
  have h2:=QFW h xs
  simp only [List.map_cons,List.sum_cons,List.length_cons]
  have e : W * (xs.length + 1 + (g x + (xs.map g).sum)) = W * (g x + 1) + W * (xs.length + (xs.map g).sum):=by rw [← Nat.mul_add]; congr 1; omega
  omega
theorem QuH : ∀ (t : Ty) (x : t.den),X4 t x ≤ t.wid * (t.size x + 1)
 | .int _,_=>by simp [X4,Ty.wid,Ty.size]
 | .bool,_=>by simp [X4,Ty.wid,Ty.size]
 | .str,x=>by simp only [X4,Ty.wid]; omega
 | .unit,_=>by simp [X4]
 | .pair a b,x=>by
  have h1:=QuH a x.1
  have h2:=QuH b x.2
  simp only [X4,Ty.wid,Ty.size]
  have e1 : a.wid * (a.size x.1 + 1) ≤ a.wid * (a.size x.1 + b.size x.2 + 1):=Nat.mul_le_mul_left _ (by omega)
  have e2 : b.wid * (b.size x.2 + 1) ≤ b.wid * (a.size x.1 + b.size x.2 + 1):=Nat.mul_le_mul_left _ (by omega)
  rw [Nat.add_mul]
  omega
 | .list t,xs=>by
  have h:=QFW (QuH t) (show List t.den from xs)
  simp only [X4,Ty.wid,Ty.size]
  have e : t.wid * (List.length (α:=t.den) xs + (List.map t.size xs).sum) ≤ t.wid * (List.length (α:=t.den) xs + (List.map t.size xs).sum + 1):=Nat.mul_le_mul_left _ (by omega)
  exact Nat.le_trans h e
 | .map _ _,_=>by simp [X4]
 | .tree _,_=>by simp [X4]
theorem QBw : ∀ (t : Ty) (x : t.den),Xb t x ≤ t.wid * t.size x
 | .int _,_=>by simp [Xb]
 | .bool,_=>by simp [Xb]
 | .str,x=>by simp [Xb]
 | .unit,_=>by simp [Xb]
 | .pair a b,x=>by
  have h1:=QBw a x.1
  have h2:=QBw b x.2
  simp only [Xb,Ty.wid,Ty.size]
  have e1 : a.wid * a.size x.1 ≤ a.wid * (a.size x.1 + b.size x.2):=Nat.mul_le_mul_left _ (by omega)
  have e2 : b.wid * b.size x.2 ≤ b.wid * (a.size x.1 + b.size x.2):=Nat.mul_le_mul_left _ (by omega)
  rw [Nat.add_mul]
  omega
 | .list t,xs=>QFW (QuH t) (show List t.den from xs)
 | .map _ _,_=>by simp [Xb]
 | .tree _,_=>by simp [Xb]
theorem Qlj {t : Ty} {x : t.den} {k : Int} (h0 : 0 ≤ k) (h1 : k + Xb t x ≤ Zz) : Qef t x k = some (JQ t x k):=by
 unfold Qef
 rw [if_pos ⟨h0,h1⟩]
theorem Qlk {t : Ty} {x : t.den} {n : Nat} (hs : t.size x ≤ n) (hw : t.wid ≤ 100000) : Xb t x ≤ 100000 * n :=
 Nat.le_trans (QBw t x) (Nat.mul_le_mul hw hs)
end Go.Ab
