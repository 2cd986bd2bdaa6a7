import Derived.Test.YtafopbigcffjgaaGreatAb20
namespace Go.Ab
noncomputable section
theorem Qd2 {t : Ty} {xs : List t.den} (h : wfD (.list t) xs) : xs.length ≤ maxLen ∧ ∀ x ∈ xs,wfD t x:=h
theorem QmW {l : Int} {n : Nat} {K : Int → Option Int} {tot : Int} (h0 : 0 ≤ l) (h1 : l ≤ 1099511627776) (hn : n ≤ maxLen) (hout : l < n → tot = -1) (hK : (n : Int) ≤ l → K (l - n) = some tot) :
  (bif decide (IntKind.wrap .i64 (l - (n : Int)) < 0) then some (-1) else K (IntKind.wrap .i64 (l - (n : Int)))) = some tot:=by
 rw [QgA h0 h1 hn]
 rcases Int.lt_or_le l n with h | h
 ·rw [decide_eq_true (by omega),hout h]; rfl
 ·rw [decide_eq_false (by omega)]; exact hK h
theorem QmX {t : Ty} {L : Nat → List t.den → Int → Int → Option Int} {d : t.den}
  (hL : ∀ n xs s i,L (n + 1) xs s i = bif decide (i < (xs.length : Int)) then bif inB i xs.length then QoP t (szC t) (rd xs i d) i s (fun s'=>L n xs s' (IntKind.wrap .i64 (i + 1))) else none else some s)
  {a0 : List t.den} {a1 y : Int} (hy : szC (.list t) a0 a1 = some y) : ∃ n,(bif decide (IntKind.wrap .i64 (a1 - (a0.length : Int)) < 0) then some (-1) else L n a0 (IntKind.wrap .i64 (a1 - (a0.length : Int))) 0) = some y:=by
 obtain ⟨hw,h0,h1,rfl⟩:=QhT hy
 obtain ⟨hl,hx⟩:=Qd2 hw
 have hs : (Ty.list t).size a0 = a0.length + (a0.map t.size).sum:=rfl
 refine ⟨a0.length + 1,QmW (K:=fun s=>L (a0.length + 1) a0 s 0) h0 h1 hl (fun h=>?_) (fun h=>?_)⟩
 ·rw [hs]; unfold Qz; rw [if_neg (by omega)]
 ·have:=QjG (L:=fun n s i=>L n a0 s i) (body:=QoP t (szC t)) (fin:=some) hl (fun n s i=>hL n a0 s i) (a1 - a0.length)
  rw [this,Qq0 a0 0 _ hx (by omega) (by omega),hs]
  congr 1
  unfold Qz
  split <;> split <;> omega
theorem QsZ {L : Nat → List (List Int) → Int → Int → Option Int} {d : List Int}
  (hL : ∀ n xs s i,L (n + 1) xs s i = bif decide (i < (xs.length : Int)) then bif inB i xs.length then
   (bif decide (IntKind.wrap .i64 (s - ((rd xs i d).length : Int)) < 0) then some (-1) else L n xs (IntKind.wrap .i64 (s - ((rd xs i d).length : Int))) (IntKind.wrap .i64 (i + 1))) else none else some s)
  {a0 : List (List Int)} {a1 y : Int} (hy : szC (.list .str) a0 a1 = some y) : ∃ n,(bif decide (IntKind.wrap .i64 (a1 - (a0.length : Int)) < 0) then some (-1) else L n a0 (IntKind.wrap .i64 (a1 - (a0.length : Int))) 0) = some y:=by
 obtain ⟨hw,h0,h1,rfl⟩:=QhT hy
 obtain ⟨hl,hx⟩:=Qd2 (t:=.str) hw
 have hs : (Ty.list .str).size a0 = a0.length + (a0.map (Ty.size .str)).sum:=rfl
 have hit : ∀ (xs : List (List Int)) (k : Nat) (s : Int),(∀ x ∈ xs,wfD .str x) → 0 ≤ s → s ≤ 1099511627776 →
   Qb1 (fun (x : List Int) (_ : Int) (s : Int) K=>bif decide (IntKind.wrap .i64 (s - (x.length : Int)) < 0) then some (-1) else K (IntKind.wrap .i64 (s - (x.length : Int)))) some k xs s = some (Qz s (xs.map (Ty.size .str)).sum):=by
  intro xs
  induction xs with
  | nil=>intro k s _ h0 _; simp [Qb1,Qz,h0]
  | cons x xs ih =>
   intro k s hw h0 h1
   have hx : x.length ≤ maxLen:=by
    have:=(hw x (by simp)).1
    unfold maxLen
    omega
   have hsz : Ty.size .str x = x.length:=rfl
   refine QmW (K:=fun s'=>Qb1 _ some (k + 1) xs s') h0 h1 hx (fun h=>?_) (fun h=>?_)
   ·simp only [List.map_cons,List.sum_cons,hsz]
    unfold Qz; rw [if_neg (by omega)]
   ·show Qb1 _ some (k + 1) xs (s - x.length) = _
    rw [ih (k + 1) _ (fun y hy=>hw y (by simp [hy])) (by omega) (by omega)]
    simp only [List.map_cons,List.sum_cons,hsz]
    congr 1
    unfold Qz
    split <;> split <;> omega
 refine ⟨a0.length + 1,QmW (K:=fun s=>L (a0.length + 1) a0 s 0) h0 h1 hl (fun h=>?_) (fun h=>?_)⟩
 ·rw [hs]; unfold Qz; rw [if_neg (by omega)]
 ·have:=QjG (L:=fun n s i=>L n a0 s i) (body:=fun (x : List Int) (_ : Int) (s : Int) K=>bif decide (IntKind.wrap .i64 (s - (x.length : Int)) < 0) then some (-1) else K (IntKind.wrap .i64 (s - (x.length : Int)))) (fin:=some) hl (fun n s i=>hL n a0 s i) (a1 - a0.length)
  rw [this,hit a0 0 _ hx (by omega) (by omega),hs]
  congr 1
  unfold Qz
  split <;> split <;> omega
open Classical in
def toC (t : Ty) (x : t.den) : Option t.den:=if wfD t x ∧ t.size x ≤ 1073741824 then some x else none
theorem ZE {t : Ty} {x : t.den} (h : wfD t x) (h0 : t.size x ≤ 1073741824) : toC t x = some x:=by
 unfold toC
 rw [if_pos ⟨h,h0⟩]
theorem Qb3 {t : Ty} {x y : t.den} (h : toC t x = some y) : wfD t x ∧ t.size x ≤ 1073741824 ∧ y = x:=by
 unfold toC at h
 split at h
 ·rename_i h1; cases h; exact ⟨h1.1,h1.2,rfl⟩
 ·cases h
theorem Qqs {n : Nat} : ∀ {l : List Nat},n ∈ l → n ≤ l.sum
 | m :: l,h=>by
  rcases List.mem_cons.1 h with rfl | h
  ·simp
  ·have:=Qqs h
   simp only [List.sum_cons]
   omega
theorem QpF {α : Type} {pre : List α} {x z : α} {r : Nat} : (pre ++ List.replicate (r + 1) z).set pre.length x = (pre ++ [x]) ++ List.replicate r z:=by
 rw [List.set_append_right _ _ (Nat.le_refl _),Nat.sub_self,List.replicate_succ,List.set_cons_zero]
 simp
theorem QoQ {t : Ty} {f : t.den → Option t.den} (hf : ∀ x : t.den,wfD t x → t.size x ≤ 1073741824 → f x = some x) {L : Nat → List t.den → Int → List t.den → Option (List t.den)} {d z : t.den} {by_ : Nat} (hby : by_ ≤ 100000)
  (hL : ∀ n xs i out,L (n + 1) xs i out = bif decide (i < (xs.length : Int)) then bif inB i xs.length then (Option.bind (f (rd xs i d)) fun y=>bif inB i out.length then
   bif inB i out.length && true && true && true && true then L n xs (IntKind.wrap .i64 (i + 1)) (out.set (Int.toNat i) y) else none else none) else none else some out)
  {a0 y : List t.den} (hy : toC (.list t) a0 = some y) : ∃ n,(bif decide ((a0.length : Int) = (a0.length : Int)) && decide ((0 : Int) ≤ (a0.length : Int)) && decide ((a0.length : Int) * (by_ : Int) ≤ JA) && true then L n a0 0 (List.replicate (Int.toNat (a0.length : Int)) z) else none) = some y:=by
 obtain ⟨hw,hs,rfl⟩:=Qb3 hy
 obtain ⟨hl,hx⟩:=Qd2 hw
 have hsz : (Ty.list t).size y = y.length + (y.map t.size).sum:=rfl
 have hel : ∀ x ∈ y,t.size x ≤ 1073741824:=by
  intro x hm
  have:=Qqs (List.mem_map_of_mem (f:=t.size) hm)
  omega
 have hroom : (y.length : Int) * (by_ : Int) ≤ JA:=by
  have h1 : (y.length : Int) ≤ 1073741824:=by omega
  have h2 : (by_ : Int) ≤ 100000:=by omega
  have h3:=Int.mul_le_mul h1 h2 (by omega) (by omega)
  rw [Yv]
  omega
 refine ⟨y.length + 1,?_⟩
 rw [decide_eq_true rfl,decide_eq_true (by omega : (0 : Int) ≤ (y.length : Int)),decide_eq_true hroom]
 simp only [Bool.and_self,cond_true]
 have hbody:=Qb2 (L:=fun n s i=>L n y i s) (fin:=some) (d:=d) hl (body:=fun x i s K=>Option.bind (f x) fun y=>bif inB i s.length then bif inB i s.length && true && true && true && true then K (s.set (Int.toNat i) y) else none else none) (fun n s i=>hL n y i s) (y.length + 1) 0
 have hgo : ∀ (xs pre : List t.den),(∀ x ∈ xs,wfD t x ∧ t.size x ≤ 1073741824) → Qb1 (fun x (i : Int) (s : List t.den) K=>Option.bind (f x) fun y=>bif inB i s.length then bif inB i s.length && true && true && true && true then K (s.set (Int.toNat i) y) else none else none) some pre.length xs (pre ++ List.replicate xs.length z) = some (pre ++ xs):=by
  intro xs
  induction xs with
  | nil=>intro pre _; simp [Qb1]
  | cons x xs ih =>
   intro pre hh
   simp only [Qb1]
   rw [hf x (hh x (by simp)).1 (hh x (by simp)).2]
   simp only [Option.bind_some]
   have hin : inB (pre.length : Int) (pre ++ List.replicate (x :: xs).length z).length = true:=Jn.2 (by simp; omega)
   rw [hin]
   simp only [Bool.and_self,cond_true,Int.toNat_natCast,List.length_cons]
   rw [QpF]
   have:=ih (pre ++ [x]) (fun w hw=>hh w (by simp [hw]))
   simp only [List.length_append,List.length_singleton] at this
   rw [this]
   simp
 have h2:=hgo y [] (fun x hm=>⟨hx x hm,hel x hm⟩)
 simp only [List.nil_append,List.length_nil] at h2
 have h3:=hbody (List.replicate (Int.toNat (y.length : Int)) z) (Nat.zero_le _) (by omega)
 simp only [Int.toNat_natCast,List.drop_zero] at h3
 simp only [Int.toNat_natCast]
 exact h3.trans h2
open Classical in
def eqC (t : Ty) (x y : t.den) : Option Bool:=if x = y ∧ wfD t x then some true else none
theorem YZ {t : Ty} {x : t.den} (h : wfD t x) : eqC t x x = some true:=by
 unfold eqC
 rw [if_pos ⟨rfl,h⟩]
theorem Ql3 {t : Ty} {x y : t.den} {b : Bool} (h : eqC t x y = some b) : x = y ∧ wfD t x ∧ b = true:=by
 unfold eqC at h
 split at h
 ·rename_i h1; cases h; exact ⟨h1.1,h1.2,rfl⟩
 ·cases h
theorem QoR {t : Ty} {body : t.den → t.den → (Unit → Option Bool) → Option Bool} (hf : ∀ x K,wfD t x → body x x K = K ()) {L : Nat → List t.den → List t.den → Int → Option Bool} {d : t.den}
  (hL : ∀ n xs ys i,L (n + 1) xs ys i = bif decide (i < (xs.length : Int)) then bif inB i xs.length then bif inB i ys.length then body (rd xs i d) (rd ys i d) (fun _=>L n xs ys (IntKind.wrap .i64 (i + 1))) else none else none else some true)
  {a0 a1 : List t.den} {y : Bool} (hy : eqC (.list t) a0 a1 = some y) : ∃ n,(bif !decide ((a0.length : Int) = (a1.length : Int)) then some false else L n a0 a1 0) = some y:=by
 obtain ⟨rfl,hw,rfl⟩:=Ql3 hy
 obtain ⟨hl,hx⟩:=Qd2 hw
 refine ⟨a0.length + 1,?_⟩
 rw [decide_eq_true rfl]
 simp only [Bool.not_true,cond_false]
 have h1:=QjG (L:=fun n (_ : Unit) i=>L n a0 a0 i) (fin:=fun _=>some true) (d:=d) hl (body:=fun x i _ K=>bif inB i a0.length then body x x (fun _=>K ()) else none) (fun n s i=>by
  rw [hL n a0 a0 i]) ()
 rw [h1]
 have hgo : ∀ (xs : List t.den) (k : Nat),(∀ x ∈ xs,wfD t x) → k + xs.length = a0.length → Qb1 (fun x (i : Int) (_ : Unit) K=>bif inB i a0.length then body x x (fun _=>K ()) else none) (fun _=>some true) k xs () = some true:=by
  intro xs
  induction xs with
  | nil=>intro k _ _; rfl
  | cons x xs ih =>
   intro k hh hk
   simp only [Qb1,List.length_cons] at hk ⊢
   rw [Jn.2 (by omega)]
   simp only [cond_true]
   rw [hf x _ (hh x (by simp))]
   exact ih (k + 1) (fun w hw=>hh w (by simp [hw])) (by omega)
 exact hgo a0 0 hx (by simp)
end
end Go.Ab
