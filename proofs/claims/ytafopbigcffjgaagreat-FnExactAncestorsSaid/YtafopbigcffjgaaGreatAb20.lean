import Derived.Test.YtafopbigcffjgaaGreatAb19
import Derived.Laws.BitsLemmas
namespace Go.Ab
noncomputable section
theorem Qd1 {x : Int} (h : -9223372036854775808 ≤ x ∧ x ≤ 9223372036854775807) : IntKind.i64.wrap x = x:=by
 rw [IntKind.wrap_i64]
 omega
def Qb1 {α σ R : Type} (body : α → Int → σ → (σ → Option R) → Option R) (fin : σ → Option R) : Nat → List α → σ → Option R
 | _,[],s=>fin s
 | k,x :: xs,s=>body x k s fun s'=>Qb1 body fin (k + 1) xs s'
theorem Qb2 {α σ R : Type} {xs : List α} {d : α} (hlen : xs.length ≤ maxLen) {L : Nat → σ → Int → Option R} {body : α → Int → σ → (σ → Option R) → Option R} {fin : σ → Option R}
  (h : ∀ n s i,L (n + 1) s i = bif decide (i < (xs.length : Int)) then bif inB i xs.length then body (rd xs i d) i s (fun s'=>L n s' (IntKind.wrap .i64 (i + 1))) else none else fin s) :
  ∀ (n k : Nat) (s : σ),k ≤ xs.length → xs.length < n + k → L n s (k : Int) = Qb1 body fin k (xs.drop k) s
 | 0,k,s,hk,hn=>by omega
 | n + 1,k,s,hk,hn=>by
  rw [h]
  rcases Nat.lt_or_ge k xs.length with hlt | hge
  ·rw [decide_eq_true (by omega),List.drop_eq_getElem_cons hlt]
   have hin : inB (k : Int) xs.length = true:=Jn.2 (by omega)
   rw [hin]
   simp only [cond_true,Qb1]
   have hrd : rd xs (k : Int) d = xs[k]:=by simp [rd,List.getD,List.getElem?_eq_getElem hlt]
   rw [hrd]
   congr 1
   funext s'
   have hw : IntKind.wrap .i64 ((k : Int) + 1) = ((k + 1 : Nat) : Int):=by
    unfold maxLen at hlen
    rw [Qd1 (by omega)]
    omega
   rw [hw]
   exact Qb2 hlen h n (k + 1) s' hlt (by omega)
  ·have : k = xs.length:=by omega
   subst this
   rw [decide_eq_false (by omega),List.drop_length]
   rfl
theorem QjG {α σ R : Type} {xs : List α} {d : α} (hlen : xs.length ≤ maxLen) {L : Nat → σ → Int → Option R} {body : α → Int → σ → (σ → Option R) → Option R} {fin : σ → Option R}
  (h : ∀ n s i,L (n + 1) s i = bif decide (i < (xs.length : Int)) then bif inB i xs.length then body (rd xs i d) i s (fun s'=>L n s' (IntKind.wrap .i64 (i + 1))) else none else fin s) (s : σ) :
  L (xs.length + 1) s 0 = Qb1 body fin 0 xs s:=by
 have:=Qb2 hlen h (xs.length + 1) 0 s (Nat.zero_le _) (by omega)
 simpa using this
def Ty.size : (t : Ty) → t.den → Nat
 | .str,x=>List.length (α:=Int) x
 | .list t,xs=>List.length (α:=t.den) xs + ((show List t.den from xs).map t.size).sum
 | .pair a b,x=>a.size x.1 + b.size x.2
 | _,_=>0
def Qz (left : Int) (n : Nat) : Int:=if (n : Int) ≤ left then left - n else -1
theorem Qrx {left : Int} {n m : Nat} (h : 0 ≤ Qz left n) : Qz (Qz left n) m = Qz left (n + m):=by
 unfold Qz at *
 split at h
 ·rename_i h1
  rw [if_pos h1]
  split <;> split <;> omega
 ·omega
theorem Qry {left : Int} {n m : Nat} (h : Qz left n < 0) : Qz left (n + m) = -1:=by
 unfold Qz at *
 split at h
 ·omega
 ·rw [if_neg (by omega)]
theorem Qsq {left : Int} {n : Nat} (h : 0 ≤ left) : Qz left n ≤ left:=by
 unfold Qz; split <;> omega
theorem QgA {left : Int} {n : Nat} (h0 : 0 ≤ left) (h1 : left ≤ 1099511627776) (hn : n ≤ maxLen) : IntKind.wrap .i64 (left - (n : Int)) = left - n:=by
 unfold maxLen at hn
 exact Qd1 (by omega)
open Classical in
def szC (t : Ty) (x : t.den) (left : Int) : Option Int:=if wfD t x ∧ 0 ≤ left ∧ left ≤ 1099511627776 then some (Qz left (t.size x)) else none
theorem GA {t : Ty} {x : t.den} {left : Int} (h : wfD t x) (h0 : 0 ≤ left) (h1 : left ≤ 1099511627776) : szC t x left = some (Qz left (t.size x)):=by
 unfold szC
 rw [if_pos ⟨h,h0,h1⟩]
theorem QhT {t : Ty} {x : t.den} {left y : Int} (h : szC t x left = some y) : wfD t x ∧ 0 ≤ left ∧ left ≤ 1099511627776 ∧ y = Qz left (t.size x):=by
 unfold szC at h
 split at h
 ·rename_i h1
  cases h
  exact ⟨h1.1,h1.2.1,h1.2.2,rfl⟩
 ·cases h
def QoP (t : Ty) (f : t.den → Int → Option Int) (x : t.den) (_ : Int) (s : Int) (K : Int → Option Int) : Option Int :=
 Option.bind (f x s) fun y=>bif decide (y < 0) then some (-1) else K y
theorem Qq0 {t : Ty} : ∀ (xs : List t.den) (k : Nat) (s : Int),(∀ x ∈ xs,wfD t x) → 0 ≤ s → s ≤ 1099511627776 → Qb1 (QoP t (szC t)) some k xs s = some (Qz s (xs.map t.size).sum)
 | [],k,s,_,h0,_=>by
  simp only [Qb1,List.map_nil,List.sum_nil,Qz]
  rw [if_pos (by omega)]
  simp
 | x :: xs,k,s,hw,h0,h1=>by
  simp only [Qb1,QoP,List.map_cons,List.sum_cons]
  rw [GA (hw x (by simp)) h0 h1]
  simp only [Option.bind_some]
  cases hd : decide (Qz s (t.size x) < 0) with
  | true =>
   have hd:=of_decide_eq_true hd
   rw [Qry hd]
   rfl
  | false =>
   have hd:=of_decide_eq_false hd
   simp only [cond_false]
   rw [Qq0 xs (k + 1) _ (fun y hy=>hw y (by simp [hy])) (by omega) (by have:=Qsq (n:=t.size x) h0; omega),Qrx (by omega)]
theorem QsY {xs : List Int} (h : wfD .str xs) : xs.length ≤ maxLen:=by
 have:=h.1
 unfold maxLen
 omega
end
end Go.Ab
