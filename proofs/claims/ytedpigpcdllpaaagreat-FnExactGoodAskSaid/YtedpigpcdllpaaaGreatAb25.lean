import Derived.Test.YtedpigpcdllpaaaGreatAb21
import Derived.LaidMore
import Derived.OpenShut
import Derived.ChangeMaps3
import Derived.Stop.Joined
namespace Go.Ab
variable {R : Type}
def Ev (f : Nat → Option R) (r : R) : Prop:=∃ N,∀ n,N ≤ n → f n = some r
theorem Ev.const {r r' : R} (h : r' = r) : Ev (fun _=>some r') r:=⟨0,fun _ _=>congrArg some h⟩
theorem Ev.get {f : Nat → Option R} {r : R} (h : Ev f r) : ∃ n,f n = some r:=let ⟨N,hN⟩:=h; ⟨N,hN N (Nat.le_refl _)⟩
theorem Ev.of_eq {f g : Nat → Option R} {r : R} (h : Ev g r) (he : ∀ n,f n = g n) : Ev f r:=let ⟨N,hN⟩:=h; ⟨N,fun n hn=>(he n).trans (hN n hn)⟩
theorem Ev.succ {f : Nat → Option R} {r : R} (h : Ev (fun n=>f (n + 1)) r) : Ev f r:=by
 obtain ⟨N,hN⟩:=h
 refine ⟨N + 1,fun n hn=>?_⟩
 obtain ⟨m,rfl⟩ : ∃ m,n = m + 1:=⟨n - 1,by omega⟩
 exact hN m (by omega)
theorem Ev.step {f g : Nat → Option R} {r : R} (h : Ev g r) (he : ∀ n,f (n + 1) = g n) : Ev f r:=Ev.succ (h.of_eq he)
theorem Ev.bif {c : Bool} {f g : Nat → Option R} {r : R} (h1 : c = true → Ev f r) (h2 : c = false → Ev g r) : Ev (fun n=>bif c then f n else g n) r:=by
 cases c
 ·exact h2 rfl
 ·exact h1 rfl
theorem Ev.pos {c : Bool} {f g : Nat → Option R} {r : R} (hc : c = true) (h1 : Ev f r) : Ev (fun n=>bif c then f n else g n) r:=by subst hc; exact h1
theorem Ev.neg {c : Bool} {f g : Nat → Option R} {r : R} (hc : c = false) (h1 : Ev g r) : Ev (fun n=>bif c then f n else g n) r:=by subst hc; exact h1
theorem QG {k len : Nat} (hl : len ≤ maxLen) (hk : k < len) : IntKind.wrap .i64 ((k : Int) + 1) = ((k + 1 : Nat) : Int):=by
 unfold maxLen at hl
 rw [Qrj (by omega)]
 omega
theorem QEM {k len : Nat} (hl : len ≤ maxLen) (hk : k < len) : IntKind.wrap .i64 (((k + 1 : Nat) : Int) - 1) = (k : Int):=by
 unfold maxLen at hl
 rw [Qrj (by omega)]
 omega
theorem Qy4 {α : Type} {xs : List α} {d x : α} {k : Nat} (h : xs[k]? = some x) : rd xs (k : Int) d = x:=by
 simp [rd,List.getD,h]
end Go.Ab
namespace Go.Ab
noncomputable section
variable {R : Type}
theorem Ev.ofNone {f : Nat → Option R} {r : R} (h : (none : Option R) = some r) : Ev f r:=nomatch h
theorem Ev.ofSome {a r : R} (h : some a = some r) : Ev (fun _=>some a) r:=⟨0,fun _ _=>h⟩
theorem Ev.ofBif {c : Bool} {A B : Option R} {f g : Nat → Option R} {r : R} (h : (bif c then A else B) = some r) (h1 : A = some r → Ev f r) (h2 : B = some r → Ev g r) : Ev (fun n=>bif c then f n else g n) r:=by
 cases c
 ·exact h2 h
 ·exact h1 h
theorem Ev.ofBind {α : Type} {e : Option α} {A : α → Option R} {f : Nat → α → Option R} {r : R} (h : Option.bind e A = some r) (h1 : ∀ y,A y = some r → Ev (fun n=>f n y) r) : Ev (fun n=>Option.bind e (f n)) r:=by
 cases e with
 | none=>cases h
 | some y=>exact h1 y h
def ZF {α : Type} (xs : List α) (r : Option R) : Option R:=bif decide (xs.length ≤ maxLen) then r else none
theorem QL {α : Type} {xs : List α} {r : Option R} (h : xs.length ≤ maxLen) : ZF xs r = r:=by unfold ZF; rw [decide_eq_true h]; rfl
theorem Ev.ofLen {α : Type} {xs : List α} {A : Option R} {f : Nat → Option R} {r : R} (h : ZF xs A = some r) (h1 : xs.length ≤ maxLen → A = some r → Ev f r) : Ev f r:=by
 unfold ZF at h
 cases hd : decide (xs.length ≤ maxLen) with
 | true=>rw [hd] at h; exact h1 (of_decide_eq_true hd) h
 | false=>rw [hd] at h; cases h
open Classical in
def Qhw (f : Nat → Option R) : Option R:=if h : ∃ r,Ev f r then some h.choose else none
theorem Ev.uniq {f : Nat → Option R} {r r' : R} (h : Ev f r) (h' : Ev f r') : r = r':=by
 obtain ⟨N,hN⟩:=h
 obtain ⟨N',hN'⟩:=h'
 have h1:=hN (max N N') (by omega)
 rw [hN' (max N N') (by omega)] at h1
 exact (Option.some.inj h1).symm
theorem Qbn {f : Nat → Option R} {r : R} (h : Ev f r) : Qhw f = some r:=by
 have hx : ∃ r,Ev f r:=⟨r,h⟩
 unfold Qhw
 rw [dif_pos hx,hx.choose_spec.uniq h]
theorem Ee {f : Nat → Option R} {r : R} (h : Qhw f = some r) : Ev f r:=by
 unfold Qhw at h
 split at h
 ·rename_i hx
  cases h
  exact hx.choose_spec
 ·cases h
theorem QR {α : Type} {xs : List α} {k : Nat} (h : [] = xs.drop k) : xs.length ≤ k:=List.drop_eq_nil_iff.1 h.symm
theorem QJ {α : Type} {xs rest : List α} {k : Nat} {e d : α} (h : e :: rest = xs.drop k) : k < xs.length ∧ rd xs (k : Int) d = e ∧ rest = xs.drop (k + 1):=by
 have hk : k < xs.length:=by
  rcases Nat.lt_or_ge k xs.length with h1 | h1
  ·exact h1
  ·rw [List.drop_eq_nil_of_le h1] at h; cases h
 rw [List.drop_eq_getElem_cons hk] at h
 injection h with h1 h2
 exact ⟨hk,by rw [Qy4 (List.getElem?_eq_getElem hk)]; exact h1.symm,h2⟩
theorem QM {k n : Nat} (h : k < n) : inB (k : Int) n = true:=VR.2 (by omega)
theorem Je {α : Type} {c : Bool} {A B : Option α} {a b : α} (h1 : A = some a) (h2 : B = some b) : (bif c then A else B) = some (bif c then a else b):=by
 cases c
 ·exact h2
 ·exact h1
end
end Go.Ab
namespace Go.Ab
open Go.ChangeShapes Go.WideShapes Go.ChangeAt Go.RowKit
section
variable {H : Type} {enc : TypeId × Value → H} {P : Program}
end
end Go.Ab
namespace Go.Ab
def QGZ : Nat → Nat → List Int
 | 0,_=>[]
 | f + 1,n=>if n = 0 then [] else QGZ f (n / 10) ++ [48 + ((n % 10 : Nat) : Int)]
def QG0 (k : Int) : List Int:=if k ≤ 0 then [109,48] else 109 :: QGZ (k.toNat + 1) k.toNat
def Qx2 : Int:=1099511627776
inductive Act1 where
 | seti (off : Nat) | sety (off : Nat) | setb (off : Nat) | sets (off : Nat) | inc | sub (off : Nat) (t : Ty)
def Ty.mok : Ty → Bool
 | .int .i64 | .int .u8 | .bool | .str | .unit=>true
 | .pair a b=>a.mok && b.mok
 | .list t=>t.mok
 | _=>false
def QFO : Ty → Nat → List Act1
 | .int .i64,off=>[.seti off,.inc]
 | .int _,off=>[.sety off,.inc]
 | .bool,off=>[.setb off,.inc]
 | .str,off=>[.sets off,.inc]
 | .pair a b,off=>QFO a off ++ QFO b (off + a.cells)
 | .list t,off=>[.sub off (.list t)]
 | _,_=>[]
def Ty.beq (a b : Ty) : Bool:=match Ty.eq? a b with
 | some _=>true
 | none=>false
theorem wrap_i64 {k : Int} (h0 : 0 ≤ k) (h1 : k ≤ Qx2) : IntKind.wrap .i64 k = k :=
 QFc (Wa.2 (by rw [Qo2,Qhp]; unfold Qx2 at h1; omega))
end Go.Ab
