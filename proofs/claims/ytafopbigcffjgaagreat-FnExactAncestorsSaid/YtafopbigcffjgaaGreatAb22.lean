import Derived.Test.YtafopbigcffjgaaGreatAb21
namespace Go.Ab
variable {R : Type}
def Ev (f : Nat → Option R) (r : R) : Prop:=∃ N,∀ n,N ≤ n → f n = some r
theorem Ev.const {r r' : R} (h : r' = r) : Ev (fun _=>some r') r:=⟨0,fun _ _=>congrArg some h⟩
theorem Ev.get {f : Nat → Option R} {r : R} (h : Ev f r) : ∃ n,f n = some r:=let ⟨N,hN⟩:=h; ⟨N,hN N (Nat.le_refl _)⟩
theorem Ev.of_eq {f g : Nat → Option R} {r : R} (h : Ev g r) (he : ∀ n,f n = g n) : Ev f r:=let ⟨N,hN⟩:=h; ⟨N,fun n hn=>(he n).trans (hN n hn)⟩
theorem Ev.succ {f : Nat → Option R} {r : R} (h : Ev (fun n=>f (n + 1)) r) : Ev f r:=by
 obtain ⟨N,hN⟩:=h
 refine ⟨N + 1,fun n hn=>?_⟩
 obtain ⟨m,rfl⟩ : ∃ m,n = m + 1:=⟨n - 1,by omega⟩
 exact hN m (by omega)
theorem Ev.step {f g : Nat → Option R} {r : R} (h : Ev g r) (he : ∀ n,f (n + 1) = g n) : Ev f r:=Ev.succ (h.of_eq he)
theorem Ev.bif {c : Bool} {f g : Nat → Option R} {r : R} (h1 : c = true → Ev f r) (h2 : c = false → Ev g r) : Ev (fun n=>bif c then f n else g n) r:=by
 cases c
 ·exact h2 rfl
 ·exact h1 rfl
theorem Ev.pos {c : Bool} {f g : Nat → Option R} {r : R} (hc : c = true) (h1 : Ev f r) : Ev (fun n=>bif c then f n else g n) r:=by subst hc; exact h1
theorem Ev.neg {c : Bool} {f g : Nat → Option R} {r : R} (hc : c = false) (h1 : Ev g r) : Ev (fun n=>bif c then f n else g n) r:=by subst hc; exact h1
theorem QR {k len : Nat} (hl : len ≤ maxLen) (hk : k < len) : IntKind.wrap .i64 ((k : Int) + 1) = ((k + 1 : Nat) : Int):=by
 unfold maxLen at hl
 rw [Qd1 (by omega)]
 omega
theorem QaN {k len : Nat} (hl : len ≤ maxLen) (hk : k < len) : IntKind.wrap .i64 (((k + 1 : Nat) : Int) - 1) = (k : Int):=by
 unfold maxLen at hl
 rw [Qd1 (by omega)]
 omega
theorem Eh {α : Type} {xs : List α} {d x : α} {k : Nat} (h : xs[k]? = some x) : rd xs (k : Int) d = x:=by
 simp [rd,List.getD,h]
end Go.Ab
