import Derived.Test.YtcoepmcddmnnhaaAb19
import Derived.Laws.BitsLemmas
namespace Go.Ab
theorem Q5 {x : Int} (h : -9223372036854775808 ≤ x ∧ x ≤ 9223372036854775807) : IntKind.i64.wrap x = x:=by
 rw [IntKind.wrap_i64]
 omega
def Qes {α σ R : Type} (body : α → Int → σ → (σ → Option R) → Option R) (fin : σ → Option R) : Nat → List α → σ → Option R
 | _,[],s=>fin s
 | k,x :: xs,s=>body x k s fun s'=>Qes body fin (k + 1) xs s'
theorem WS {α σ R : Type} {xs : List α} {d : α} (hlen : xs.length ≤ maxLen) {L : Nat → σ → Int → Option R} {body : α → Int → σ → (σ → Option R) → Option R} {fin : σ → Option R}
  (h : ∀ n s i,L (n + 1) s i = bif decide (i < (xs.length : Int)) then bif inB i xs.length then body (rd xs i d) i s (fun s'=>L n s' (IntKind.wrap .i64 (i + 1))) else none else fin s) :
  ∀ (n k : Nat) (s : σ),k ≤ xs.length → xs.length < n + k → L n s (k : Int) = Qes body fin k (xs.drop k) s
 | 0,k,s,hk,hn=>by omega
 | n + 1,k,s,hk,hn=>by
  rw [h]
  rcases Nat.lt_or_ge k xs.length with hlt | hge
  ·rw [decide_eq_true (by omega),List.drop_eq_getElem_cons hlt]
   have hin : inB (k : Int) xs.length = true:=ZZ.2 (by omega)
   rw [hin]
   simp only [cond_true,Qes]
   have hrd : rd xs (k : Int) d = xs[k]:=by simp [rd,List.getD,List.getElem?_eq_getElem hlt]
   rw [hrd]
   congr 1
   funext s'
   have hw : IntKind.wrap .i64 ((k : Int) + 1) = ((k + 1 : Nat) : Int):=by
    unfold maxLen at hlen
    rw [Q5 (by omega)]
    omega
   rw [hw]
   exact WS hlen h n (k + 1) s' hlt (by omega)
  ·have : k = xs.length:=by omega
   subst this
   rw [decide_eq_false (by omega),List.drop_length]
   rfl
theorem QgT {α σ R : Type} {xs : List α} {d : α} (hlen : xs.length ≤ maxLen) {L : Nat → σ → Int → Option R} {body : α → Int → σ → (σ → Option R) → Option R} {fin : σ → Option R}
  (h : ∀ n s i,L (n + 1) s i = bif decide (i < (xs.length : Int)) then bif inB i xs.length then body (rd xs i d) i s (fun s'=>L n s' (IntKind.wrap .i64 (i + 1))) else none else fin s) (s : σ) :
  L (xs.length + 1) s 0 = Qes body fin 0 xs s:=by
 have:=WS hlen h (xs.length + 1) 0 s (Nat.zero_le _) (by omega)
 simpa using this
def Ty.size : (t : Ty) → t.den → Nat
 | .str,x=>List.length (α:=Int) x
 | .list t,xs=>List.length (α:=t.den) xs + ((show List t.den from xs).map t.size).sum
 | .pair a b,x=>a.size x.1 + b.size x.2
 | _,_=>0
end Go.Ab
