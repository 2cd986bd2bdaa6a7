/-
  Loops over a list; sizes of data.
-/
import Derived.Test.YtgmdnickgijkoaaDoorAb19
import Derived.Laws.BitsLemmas
namespace Go.Ab

theorem wrap64 {x : Int} (h : -9223372036854775808 ≤ x ∧ x ≤ 9223372036854775807) : IntKind.i64.wrap x = x := by
  rw [IntKind.wrap_i64]
  omega

/-- A loop over a list, from its k-th element on. -/
def iter {α σ R : Type} (body : α → Int → σ → (σ → Option R) → Option R) (fin : σ → Option R) : Nat → List α → σ → Option R
  | _, [], s => fin s
  | k, x :: xs, s => body x k s fun s' => iter body fin (k + 1) xs s'

theorem range_loop {α σ R : Type} {xs : List α} {d : α} (hlen : xs.length ≤ maxLen) {L : Nat → σ → Int → Option R} {body : α → Int → σ → (σ → Option R) → Option R} {fin : σ → Option R}
    (h : ∀ n s i, L (n + 1) s i = bif decide (i < (xs.length : Int)) then bif inB i xs.length then body (rd xs i d) i s (fun s' => L n s' (IntKind.wrap .i64 (i + 1))) else none else fin s) :
    ∀ (n k : Nat) (s : σ), k ≤ xs.length → xs.length < n + k → L n s (k : Int) = iter body fin k (xs.drop k) s
  | 0, k, s, hk, hn => by omega
  | n + 1, k, s, hk, hn => by
    rw [h]
    rcases Nat.lt_or_ge k xs.length with hlt | hge
    · rw [decide_eq_true (by omega), List.drop_eq_getElem_cons hlt]
      have hin : inB (k : Int) xs.length = true := inB_iff.2 (by omega)
      rw [hin]
      simp only [cond_true, iter]
      have hrd : rd xs (k : Int) d = xs[k] := by simp [rd, List.getD, List.getElem?_eq_getElem hlt]
      rw [hrd]
      congr 1
      funext s'
      have hw : IntKind.wrap .i64 ((k : Int) + 1) = ((k + 1 : Nat) : Int) := by
        unfold maxLen at hlen
        rw [wrap64 (by omega)]
        omega
      rw [hw]
      exact range_loop hlen h n (k + 1) s' hlt (by omega)
    · have : k = xs.length := by omega
      subst this
      rw [decide_eq_false (by omega), List.drop_length]
      rfl

/-- The whole loop. -/
theorem range_all {α σ R : Type} {xs : List α} {d : α} (hlen : xs.length ≤ maxLen) {L : Nat → σ → Int → Option R} {body : α → Int → σ → (σ → Option R) → Option R} {fin : σ → Option R}
    (h : ∀ n s i, L (n + 1) s i = bif decide (i < (xs.length : Int)) then bif inB i xs.length then body (rd xs i d) i s (fun s' => L n s' (IntKind.wrap .i64 (i + 1))) else none else fin s) (s : σ) :
    L (xs.length + 1) s 0 = iter body fin 0 xs s := by
  have := range_loop hlen h (xs.length + 1) 0 s (Nat.zero_le _) (by omega)
  simpa using this

/-- How many texts' bytes and elements a datum has. -/
def Ty.size : (t : Ty) → t.den → Nat
  | .str, x => List.length (α := Int) x
  | .list t, xs => List.length (α := t.den) xs + ((show List t.den from xs).map t.size).sum
  | .pair a b, x => a.size x.1 + b.size x.2
  | _, _ => 0

/-- What is left of a bound. -/
def lessZ (left : Int) (n : Nat) : Int := if (n : Int) ≤ left then left - n else -1

theorem lessZ_neg {left : Int} {n : Nat} : lessZ left n < 0 ↔ left < n ∨ left < 0 := by
  unfold lessZ
  split <;> omega

theorem lessZ_add {left : Int} {n m : Nat} (h : 0 ≤ lessZ left n) : lessZ (lessZ left n) m = lessZ left (n + m) := by
  unfold lessZ at *
  split at h
  · rename_i h1
    rw [if_pos h1]
    split <;> split <;> omega
  · omega

theorem lessZ_out {left : Int} {n m : Nat} (h : lessZ left n < 0) : lessZ left (n + m) = -1 := by
  unfold lessZ at *
  split at h
  · omega
  · rw [if_neg (by omega)]

theorem lessZ_le {left : Int} {n : Nat} (h : 0 ≤ left) : lessZ left n ≤ left := by
  unfold lessZ; split <;> omega

theorem lessZ_wrap {left : Int} {n : Nat} (h0 : 0 ≤ left) (h1 : left ≤ 1099511627776) (hn : n ≤ maxLen) : IntKind.wrap .i64 (left - (n : Int)) = left - n := by
  unfold maxLen at hn
  exact wrap64 (by omega)

open Classical in
/-- The contract of a function that measures a datum. -/
noncomputable def szC (t : Ty) (x : t.den) (left : Int) : Option Int := if wfD t x ∧ 0 ≤ left ∧ left ≤ 1099511627776 then some (lessZ left (t.size x)) else none

theorem szC_some {t : Ty} {x : t.den} {left : Int} (h : wfD t x) (h0 : 0 ≤ left) (h1 : left ≤ 1099511627776) : szC t x left = some (lessZ left (t.size x)) := by
  unfold szC
  rw [if_pos ⟨h, h0, h1⟩]

theorem szC_inv {t : Ty} {x : t.den} {left y : Int} (h : szC t x left = some y) : wfD t x ∧ 0 ≤ left ∧ left ≤ 1099511627776 ∧ y = lessZ left (t.size x) := by
  unfold szC at h
  split at h
  · rename_i h1
    cases h
    exact ⟨h1.1, h1.2.1, h1.2.2, rfl⟩
  · cases h

/-- The body of a measuring loop. -/
def szBody (t : Ty) (f : t.den → Int → Option Int) (x : t.den) (_ : Int) (s : Int) (K : Int → Option Int) : Option Int :=
  Option.bind (f x s) fun y => bif decide (y < 0) then some (-1) else K y

theorem sz_iter {t : Ty} : ∀ (xs : List t.den) (k : Nat) (s : Int), (∀ x ∈ xs, wfD t x) → 0 ≤ s → s ≤ 1099511627776 → iter (szBody t (szC t)) some k xs s = some (lessZ s (xs.map t.size).sum)
  | [], k, s, _, h0, _ => by
    simp only [iter, List.map_nil, List.sum_nil, lessZ]
    rw [if_pos (by omega)]
    simp
  | x :: xs, k, s, hw, h0, h1 => by
    simp only [iter, szBody, List.map_cons, List.sum_cons]
    rw [szC_some (hw x (by simp)) h0 h1]
    simp only [Option.bind_some]
    cases hd : decide (lessZ s (t.size x) < 0) with
    | true =>
      have hd := of_decide_eq_true hd
      rw [lessZ_out hd]
      rfl
    | false =>
      have hd := of_decide_eq_false hd
      simp only [cond_false]
      rw [sz_iter xs (k + 1) _ (fun y hy => hw y (by simp [hy])) (by omega) (by have := lessZ_le (n := t.size x) h0; omega), lessZ_add (by omega)]

open Classical in
/-- A value, where a condition holds. -/
noncomputable def need (p : Prop) {α : Type} (v : α) : Option α := if p then some v else none

theorem need_pos {p : Prop} {α : Type} {v : α} (h : p) : need p v = some v := by
  unfold need; rw [if_pos h]

theorem need_inv {p : Prop} {α : Type} {v y : α} (h : need p v = some y) : p ∧ y = v := by
  unfold need at h
  split at h
  · cases h; exact ⟨‹_›, rfl⟩
  · cases h

theorem wfD_rd {t : Ty} {xs : List t.den} {i : Int} {d : t.den} (h : wfD (.list t) xs) (hi : inB i xs.length = true) : wfD t (rd xs i d) :=
  h.2 _ (List.mem_of_getElem? (rd_eq hi))

theorem wfD_len {xs : List Int} (h : wfD .str xs) : xs.length ≤ maxLen := by
  have := h.1
  unfold maxLen
  omega

theorem wfD_byte {xs : List Int} {i : Int} (h : wfD .str xs) (hi : inB i xs.length = true) : 0 ≤ rd xs i 0 ∧ rd xs i 0 ≤ 255 := by
  have := h.2 _ (List.mem_of_getElem? (rd_eq (d := (0 : Int)) hi))
  rw [inK_iff, min_u8, max_u8] at this
  exact this

end Go.Ab
