import Derived.Test.YtafopbigcffjgaaGreatAb22
namespace Go.Ab
noncomputable section
variable {R : Type}
theorem Ev.ofNone {f : Nat → Option R} {r : R} (h : (none : Option R) = some r) : Ev f r:=nomatch h
theorem Ev.ofSome {a r : R} (h : some a = some r) : Ev (fun _=>some a) r:=⟨0,fun _ _=>h⟩
theorem Ev.ofBif {c : Bool} {A B : Option R} {f g : Nat → Option R} {r : R} (h : (bif c then A else B) = some r) (h1 : A = some r → Ev f r) (h2 : B = some r → Ev g r) : Ev (fun n=>bif c then f n else g n) r:=by
 cases c
 ·exact h2 h
 ·exact h1 h
theorem Ev.ofBind {α : Type} {e : Option α} {A : α → Option R} {f : Nat → α → Option R} {r : R} (h : Option.bind e A = some r) (h1 : ∀ y,A y = some r → Ev (fun n=>f n y) r) : Ev (fun n=>Option.bind e (f n)) r:=by
 cases e with
 | none=>cases h
 | some y=>exact h1 y h
def Ym {α : Type} (xs : List α) (r : Option R) : Option R:=bif decide (xs.length ≤ maxLen) then r else none
theorem QU {α : Type} {xs : List α} {r : Option R} (h : xs.length ≤ maxLen) : Ym xs r = r:=by unfold Ym; rw [decide_eq_true h]; rfl
theorem Ev.ofLen {α : Type} {xs : List α} {A : Option R} {f : Nat → Option R} {r : R} (h : Ym xs A = some r) (h1 : xs.length ≤ maxLen → A = some r → Ev f r) : Ev f r:=by
 unfold Ym at h
 cases hd : decide (xs.length ≤ maxLen) with
 | true=>rw [hd] at h; exact h1 (of_decide_eq_true hd) h
 | false=>rw [hd] at h; cases h
open Classical in
def QhU (f : Nat → Option R) : Option R:=if h : ∃ r,Ev f r then some h.choose else none
theorem Ev.uniq {f : Nat → Option R} {r r' : R} (h : Ev f r) (h' : Ev f r') : r = r':=by
 obtain ⟨N,hN⟩:=h
 obtain ⟨N',hN'⟩:=h'
 have h1:=hN (max N N') (by omega)
 rw [hN' (max N N') (by omega)] at h1
 exact (Option.some.inj h1).symm
theorem Qd3 {f : Nat → Option R} {r : R} (h : Ev f r) : QhU f = some r:=by
 have hx : ∃ r,Ev f r:=⟨r,h⟩
 unfold QhU
 rw [dif_pos hx,hx.choose_spec.uniq h]
theorem QaO {f : Nat → Option R} {r : R} (h : QhU f = some r) : Ev f r:=by
 unfold QhU at h
 split at h
 ·rename_i hx
  cases h
  exact hx.choose_spec
 ·cases h
theorem Za {α : Type} {xs : List α} {k : Nat} (h : [] = xs.drop k) : xs.length ≤ k:=List.drop_eq_nil_iff.1 h.symm
theorem QK {α : Type} {xs rest : List α} {k : Nat} {e d : α} (h : e :: rest = xs.drop k) : k < xs.length ∧ rd xs (k : Int) d = e ∧ rest = xs.drop (k + 1):=by
 have hk : k < xs.length:=by
  rcases Nat.lt_or_ge k xs.length with h1 | h1
  ·exact h1
  ·rw [List.drop_eq_nil_of_le h1] at h; cases h
 rw [List.drop_eq_getElem_cons hk] at h
 injection h with h1 h2
 exact ⟨hk,by rw [Eh (List.getElem?_eq_getElem hk)]; exact h1.symm,h2⟩
theorem QD {k n : Nat} (h : k < n) : inB (k : Int) n = true:=Jn.2 (by omega)
theorem Q1 {α : Type} {c : Bool} {A B : Option α} {a b : α} (h1 : A = some a) (h2 : B = some b) : (bif c then A else B) = some (bif c then a else b):=by
 cases c
 ·exact h2
 ·exact h1
end
end Go.Ab
