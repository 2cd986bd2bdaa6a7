/-
  What a loop comes to, from some number of rounds on.
-/
import Derived.Test.YtgmdnickgijkoaaDoorAb21
namespace Go.Ab
variable {R : Type}

/-- From some number of rounds on the answer is r. -/
def Ev (f : Nat → Option R) (r : R) : Prop := ∃ N, ∀ n, N ≤ n → f n = some r

theorem Ev.const {r r' : R} (h : r' = r) : Ev (fun _ => some r') r := ⟨0, fun _ _ => congrArg some h⟩
theorem Ev.get {f : Nat → Option R} {r : R} (h : Ev f r) : ∃ n, f n = some r := let ⟨N, hN⟩ := h; ⟨N, hN N (Nat.le_refl _)⟩
theorem Ev.of_eq {f g : Nat → Option R} {r : R} (h : Ev g r) (he : ∀ n, f n = g n) : Ev f r := let ⟨N, hN⟩ := h; ⟨N, fun n hn => (he n).trans (hN n hn)⟩
theorem Ev.succ {f : Nat → Option R} {r : R} (h : Ev (fun n => f (n + 1)) r) : Ev f r := by
  obtain ⟨N, hN⟩ := h
  refine ⟨N + 1, fun n hn => ?_⟩
  obtain ⟨m, rfl⟩ : ∃ m, n = m + 1 := ⟨n - 1, by omega⟩
  exact hN m (by omega)
theorem Ev.step {f g : Nat → Option R} {r : R} (h : Ev g r) (he : ∀ n, f (n + 1) = g n) : Ev f r := Ev.succ (h.of_eq he)
theorem Ev.bif {c : Bool} {f g : Nat → Option R} {r : R} (h1 : c = true → Ev f r) (h2 : c = false → Ev g r) : Ev (fun n => bif c then f n else g n) r := by
  cases c
  · exact h2 rfl
  · exact h1 rfl
theorem Ev.pos {c : Bool} {f g : Nat → Option R} {r : R} (hc : c = true) (h1 : Ev f r) : Ev (fun n => bif c then f n else g n) r := by subst hc; exact h1
theorem Ev.neg {c : Bool} {f g : Nat → Option R} {r : R} (hc : c = false) (h1 : Ev g r) : Ev (fun n => bif c then f n else g n) r := by subst hc; exact h1
theorem Ev.need {α : Type} {p : Prop} {v : α} {K : Nat → α → Option R} {r : R} (hp : p) (h : Ev (fun n => K n v) r) : Ev (fun n => Option.bind (Go.Ab.need p v) (K n)) r :=
  h.of_eq fun n => by rw [need_pos hp]; rfl

theorem wrap_succ {k len : Nat} (hl : len ≤ maxLen) (hk : k < len) : IntKind.wrap .i64 ((k : Int) + 1) = ((k + 1 : Nat) : Int) := by
  unfold maxLen at hl
  rw [wrap64 (by omega)]
  omega

theorem wrap_pred {k len : Nat} (hl : len ≤ maxLen) (hk : k < len) : IntKind.wrap .i64 (((k + 1 : Nat) : Int) - 1) = (k : Int) := by
  unfold maxLen at hl
  rw [wrap64 (by omega)]
  omega

theorem rd_nat {α : Type} {xs : List α} {d x : α} {k : Nat} (h : xs[k]? = some x) : rd xs (k : Int) d = x := by
  simp [rd, List.getD, h]

/-- A loop over a list, with a plain function of what is left of it. -/
theorem range_ev {α σ : Type} {xs : List α} {d : α} (hlen : xs.length ≤ maxLen) {L : Nat → σ → Int → Option R} {body : Nat → α → Int → σ → (σ → Option R) → Option R} {fin : Nat → σ → Option R} {g : Nat → List α → σ → R}
    (h : ∀ n s i, L (n + 1) s i = bif decide (i < (xs.length : Int)) then bif inB i xs.length then body n (rd xs i d) i s (fun s' => L n s' (IntKind.wrap .i64 (i + 1))) else none else fin n s)
    (hfin : ∀ s, Ev (fun n => fin n s) (g xs.length [] s))
    (hstep : ∀ (k : Nat) x rest s, xs.drop k = x :: rest → k < xs.length → xs[k]? = some x → (∀ s', Ev (fun n => L n s' ((k + 1 : Nat) : Int)) (g (k + 1) rest s')) → Ev (fun n => body n x (k : Int) s (fun s' => L n s' ((k + 1 : Nat) : Int))) (g k (x :: rest) s)) :
    ∀ (m k : Nat) (s : σ), k + m = xs.length → Ev (fun n => L n s (k : Int)) (g k (xs.drop k) s)
  | 0, k, s, hk => by
    have hk : k = xs.length := by omega
    subst hk
    refine Ev.step (g := fun n => fin n s) ?_ fun n => ?_
    · rw [List.drop_length]; exact hfin s
    · rw [h, decide_eq_false (by omega)]; rfl
  | m + 1, k, s, hk => by
    have hlt : k < xs.length := by omega
    have hx : xs[k]? = some xs[k] := List.getElem?_eq_getElem hlt
    have hd : xs.drop k = xs[k] :: xs.drop (k + 1) := List.drop_eq_getElem_cons hlt
    refine Ev.step (g := fun n => body n xs[k] (k : Int) s (fun s' => L n s' ((k + 1 : Nat) : Int))) ?_ fun n => ?_
    · rw [hd]
      exact hstep k _ _ s hd hlt hx (fun s' => range_ev hlen h hfin hstep m (k + 1) s' (by omega))
    · rw [h, decide_eq_true (by omega), inB_iff.2 (by omega)]
      simp only [cond_true]
      rw [rd_nat hx, wrap_succ hlen hlt]

/-- The whole loop. -/
theorem range_ev0 {α σ : Type} {xs : List α} {d : α} (hlen : xs.length ≤ maxLen) {L : Nat → σ → Int → Option R} {body : Nat → α → Int → σ → (σ → Option R) → Option R} {fin : Nat → σ → Option R} {g : Nat → List α → σ → R}
    (h : ∀ n s i, L (n + 1) s i = bif decide (i < (xs.length : Int)) then bif inB i xs.length then body n (rd xs i d) i s (fun s' => L n s' (IntKind.wrap .i64 (i + 1))) else none else fin n s)
    (hfin : ∀ s, Ev (fun n => fin n s) (g xs.length [] s))
    (hstep : ∀ (k : Nat) x rest s, xs.drop k = x :: rest → k < xs.length → xs[k]? = some x → (∀ s', Ev (fun n => L n s' ((k + 1 : Nat) : Int)) (g (k + 1) rest s')) → Ev (fun n => body n x (k : Int) s (fun s' => L n s' ((k + 1 : Nat) : Int))) (g k (x :: rest) s)) (s : σ) :
    Ev (fun n => L n s 0) (g 0 xs s) := by
  have := range_ev hlen h hfin hstep xs.length 0 s (by omega)
  simpa using this

/-- A loop that looks for an element that fails. -/
theorem all_ev {α : Type} {xs : List α} {d : α} (hlen : xs.length ≤ maxLen) {L : Nat → Int → Option Bool} {body : Nat → α → Int → Option Bool → Option Bool} {fin : Nat → Option Bool} {p : α → Bool} {b : Bool}
    (h : ∀ n i, L (n + 1) i = bif decide (i < (xs.length : Int)) then bif inB i xs.length then body n (rd xs i d) i (L n (IntKind.wrap .i64 (i + 1))) else none else fin n)
    (hfin : Ev fin b) (hbody : ∀ (k : Nat) x, k < xs.length → xs[k]? = some x → ∀ (K : Nat → Option Bool) r, Ev K r → Ev (fun n => body n x (k : Int) (K n)) (p x && r)) : Ev (fun n => L n 0) (xs.all p && b) := by
  have := range_ev0 (σ := Unit) (L := fun n _ i => L n i) (body := fun n x i _ K => body n x i (K ())) (fin := fun n _ => fin n) (g := fun _ l _ => l.all p && b) hlen (fun n _ i => h n i) (fun _ => by simpa using hfin)
    (fun k x rest _ _ hlt hx ih => by
      have := hbody k x hlt hx (fun n => L n ((k + 1 : Nat) : Int)) _ (ih ())
      simpa [Bool.and_assoc] using this) ()
  exact this

end Go.Ab
